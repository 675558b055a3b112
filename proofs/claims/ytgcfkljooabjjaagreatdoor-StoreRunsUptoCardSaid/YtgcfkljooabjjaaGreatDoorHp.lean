/- Texts of this claim, one behind the other: SRunsW. Conditions: what each lemma states. -/
import Derived.Test.YtgcfkljooabjjaaGreatDoorHo
import Derived.Deep.CutBlock
namespace Go.Proofs.YtgcfkljooabjjaaGreatDoor
open Go.RowKit Go.Op Go.Maps
set_option maxRecDepth 100000 in
set_option maxHeartbeats 16000000 in
theorem sruns_any (fp : Option Addr) (t : List Node) (n c : Nat) (ap ep : Option Addr) (fs : List FateP) (es : List EditP) (nf fc ne ec : Nat) (cp : Option Addr) (cs : List OpP) (m d : Nat) (w : World) (hR : Row w fp t) (hn : t.length = n) (hc : n ≤ c) (hcm : c ≤ maxLen) (hF : Fits1 t) (hnb2 : n ≤ 1099511627776)
    (hFR : FRow w ap fs) (hnf : fs.length = nf) (hnb : nf ≤ 4398046511103) (hpa : ap = none → fs = []) (hER : ERow w ep es) (hne : es.length = ne) (hnm : ne ≤ 1000000) (hvl : ∀ e ∈ es, e.value.length ≤ 2932031007402 ∧ Fits e.value) (hv1 : ∀ e ∈ es, Fits1 e.value ∧ e.path.size ≤ 1048576) (hcost : costE es ≤ 262144)
    (hC : ORow w cp cs) (hm : cs.length = m) (hmd : m ≤ d) (_hdm : d ≤ maxLen) (hZ : ∀ x ∈ cs, x.path.size ≤ 1048575 ∧ x.text.size ≤ maxLen) (hT : Tabs w) :
    Calls Tryz.prog 7 #[.slice fp n c, .agg #[.slice ap nf fc, .slice ep ne ec], .slice cp m d] w fun e w' => e = .returned (.bool true) ∧ Off [] w w' := by
  have HT := Lib.hid hT; have HR0 := Lib.hid hR; have HC0 := Lib.hid hC; have HN := Lib.hid hn; have HM := Lib.hid hm; have HZ := Lib.hid hZ; have HFT := Lib.hid hF; have HWE := Lib.hid (And.intro hFR (And.intro hnf (And.intro hpa (And.intro hER (And.intro hne hvl))))); have HV1 := Lib.hid (And.intro hv1 hcost); have HAW := Lib.hid (fun (W : World) (ho : Off [] w W) => sawake_any W (hT.off ho))
  unfold maxLen at hcm; clear hT hR hn hC hm hF hZ hFR hnf hpa hER hne hvl hv1 hcost
  go_enter Tryz.func7, Tryz.ntmps7
  go_upto_region 1 with fail
  refine code_gen (fun W => Blk W w.heap.size 52 #[.slice ap nf fc, .slice ep ne ec] ∧ Off [] w W) ⟨Blk.new w _ _, (Off.refl _ _).alloc _⟩ ?_
  rintro W ⟨hbf, hof⟩; have HBF := Lib.hid hbf; have HOF := Lib.hid hof; clear hbf hof
  go_wp2_with fail
  refine (HAW.out W HOF.out).mono ?_
  rintro e w1 ⟨rfl, ho1⟩; have HB1 := Lib.hid (HBF.out.off ho1 (by simp)); have HO1 := Lib.hid (HOF.out.trans_nil ho1); have HT1 := Lib.hid (HT.out.off HO1.out); clear ho1 HAW HBF HOF
  by_cases hok : okTree t = true
  case neg =>
    have hok : okTree t = false := by simpa using hok
    have HNB := Lib.hid (dnew_bad fp t n c w1 (HR0.out.off HO1.out) HN.out hc (by unfold maxLen; omega) hok HFT.out.fits (HT.out.off HO1.out)); have HNR := Lib.hid (fun (W : World) (ho : Off [] w W) => r7new_bad fp t n c W (HR0.out.off ho) HN.out hnb2 hok HFT.out); clear hok
    go_wp2_with fail
    refine HNB.out.mono ?_
    rintro e w2 ⟨rfl, ho2⟩; have HO2 := Lib.hid (HO1.out.trans_nil ho2); clear ho2
    go_wp2_with fail
    refine (HNR.out _ HO2.out).mono ?_
    rintro e w3 ⟨rfl, ho3⟩; have HO3 := Lib.hid (HO2.out.trans_nil ho3); clear ho3
    go_wp2_with fail
    go_ret
    exact ⟨rfl, HO3.out⟩
  have HGN := Lib.hid (And.intro (good_new hok) (And.intro (light_new HFT.out.fits) (Slim.new hok))); have HNEW := Lib.hid (run_new fp t n c w1 w1 (Off.refl _ _) (HT.out.off HO1.out) (HR0.out.off HO1.out) HN.out hc hok HFT.out.fits); have HNR := Lib.hid (fun (W : World) (ho : Off [] w W) => r7new_ok fp t n c W (HR0.out.off ho) HN.out hok HFT.out); clear hok
  go_wp2_with fail
  refine HNEW.out.mono ?_
  rintro e w2 ⟨gd, rfl, hr⟩; have HR2 := Lib.hid hr.e; have HO2 := Lib.hid hr.since; clear hr HNEW
  go_wp2_with fail
  refine (HNR.out _ (HO1.out.trans_nil HO2.out)).mono ?_
  rintro e w3 ⟨gr, G0, rfl, hM3, hgr, hgb, ho3⟩; have HR3 := Lib.hid (HR2.out.more (k' := gr :: G0.blocks) ho3 (fun b hb => by
    rcases List.mem_cons.1 hb with rfl | hb
    · exact ⟨hgr, hM3.blk.lt⟩
    exact ⟨hgb b hb, hM3.lt hb⟩))
  have HM3 := Lib.hid hM3; have HGB := Lib.hid (show ∀ b ∈ gr :: G0.blocks, w1.heap.size ≤ b from fun b hb => by
    have := HO2.out.size
    rcases List.mem_cons.1 hb with rfl | hb
    · omega
    have := hgb b hb; omega)
  have HB3 := Lib.hid (HB1.out.off (HO2.out.trans_nil ho3) (by simp)); have hcf := HB3.out.cell; have HO3 := Lib.hid (HO2.out.trans_nil ho3); clear hM3 hgr hgb ho3 HNR HR2; have HBT := Lib.hid (runE_boot (c := fc) (ce := ec) HR3.out ap ep fs es nf ne (HWE.out.1.off (HO1.out.trans_nil HO3.out)) HWE.out.2.1 hnb HWE.out.2.2.1 (HWE.out.2.2.2.1.off HO1.out) HWE.out.2.2.2.2.1 hnm HWE.out.2.2.2.2.2)
  go_wp2_with fail
  refine HBT.out.mono ?_
  rintro e w4 ⟨rfl, ev, hr, hk4⟩; have HR4 := Lib.hid hr; have HM4 := Lib.hid (HM3.out.kept (fun b hb => hk4 b (List.mem_append_left _ hb))); have hb4 := HB1.out.off hr.since (by simp); have hcf := hb4.cell; clear hr hk4 HBT HR3 HM3 hb4; have HBR := Lib.hid (r7boot_any gr G0 (norm (newD t)) fs es ap ep nf fc ne ec ev w4 HM4.out)
  go_wp2_with fail
  refine HBR.out.mono ?_
  rintro e w5 ⟨rfl, G, hM5, ho5, hgl⟩; obtain ⟨D0, hD0⟩ : ∃ D0, (newD t).bootE fs es ev = D0 := ⟨_, rfl⟩
  have hgb5 : ∀ b ∈ gr :: G.blocks, b ∈ gr :: G0.blocks := fun b hb => by
    rcases List.mem_cons.1 hb with rfl | hb
    · exact List.mem_cons_self ..
    exact List.mem_cons_of_mem _ (hgl b hb)
  have HS0 := Lib.hid (show SrI w1 w5 gd gr D0 0 by
    subst hD0; refine ⟨⟨⟨.slice ap nf fc, .slice ep ne ec⟩, G, (HR4.out.wrote7 HT1.out ho5 (fun b hb => by
      simp at hb
      subst hb
      exact ⟨List.mem_append_left _ (List.mem_cons_self ..), HGB.out _ (List.mem_cons_self ..)⟩) (fun b hb => .inl (List.mem_append_left _ (hgb5 b (by simpa using hb))))), hM5, fun b hb => HGB.out b (hgb5 b hb), ⟨⟨ap, fc, by rw [← HWE.out.2.1]; rfl, HWE.out.1.off HO1.out⟩, ep, ec, by rw [← HWE.out.2.2.2.2.1]; rfl, by show es.length ≤ maxLen; rw [HWE.out.2.2.2.2.1]; unfold maxLen; omega, HWE.out.2.2.2.1.off HO1.out⟩, fun b hb => by cases hb⟩,
      ⟨⟨HR4.out.ok, HGN.out.1.of (HGN.out.1.tree.of rfl rfl rfl (KS.of_inos rfl)) rfl rfl rfl, HGN.out.2.1.same rfl⟩, ⟨⟨HV1.out.2, fun e he => (HV1.out.1 e he).1.fits⟩, HV1.out.1⟩, HGN.out.2.2.boot _ _ _⟩⟩)
  clear hM5 ho5 hgl hgb5 hcf HR4 HM4 HBR HGB hD0 HGN HWE HV1
  go_wp2_with fail
  go_loopw [59] (fun x wr => ∃ (i : Nat) (D : PDisk), x = .int .i64 i ∧ i ≤ m ∧ i ≤ 20 ∧ Hid (SrI w1 wr gd gr D (1048584 * i))) (fun x _ => m - (intOf x).toNat)
  case atStart => exact ⟨0, D0, rfl, by omega, by omega, HS0⟩
  case round =>
    clear HS0; obtain ⟨i, D, rfl, hi, hi20, HRW⟩ := hrel; obtain ⟨A, G, hP⟩ := HRW.out.pair; have HP := Lib.hid hP; have HI := Lib.hid HRW.out.inv; have HFN := Lib.hid HRW.out.inv.fine; clear hP HRW
    by_cases hlt : i < m
    · have hil : i < cs.length := by rw [HM.out]; exact hlt
      obtain ⟨a, rfl, hca, hab⟩ := (HC0.out.off (HO1.out.trans_nil HP.out.run.since)).get i hil; have HZX := Lib.hid (HZ.out _ (List.getElem_mem hil)); generalize cs[i] = x at hca HZX; have c0 := hca.what; have c1 := hca.path; have c2 := hca.text; have hilt : (i : Int) < m := by omega
      have habk : (a.add (i * 3)).block < wr.heap.size := by rw [add_block]; exact hab
      clear hca hab hil
      go_upto_region 12 with fail
      refine code_gen (fun W => Blk W wr.heap.size 58 #[.int .i64 x.what, .string x.path, .string x.text] ∧ Off [] wr W) ⟨Blk.new _ _ _, (Off.refl _ _).alloc _⟩ ?_
      rintro W ⟨hbc, hof⟩; clear c0 c1 c2 habk; have HBO := Lib.hid hbc; have HPB := Lib.hid (HP.out.more (k' := [wr.heap.size]) hof (fun b hb => by simp at hb; subst hb; exact ⟨Nat.le_refl _, hbc.lt⟩)); have HPW := Lib.hid (HP.out.off hof); clear hbc hof HP
      by_cases h20 : i = 20
      · have hq : ((i : Int) == 20) = true := by rw [h20]; rfl
        clear h20; have HPE := HPW; have hrf := HPE.out.ref.blk.cell; have hrl := HPE.out.ref.blk.lt; unfold refCells at hrf; obtain ⟨ptr, ctr, htr⟩ := row_len HPE.out.ref.trace; obtain ⟨TL, hTL⟩ : ∃ TL, D.trace.length = TL := ⟨_, rfl⟩
        have htr : G.tv = .slice ptr TL ctr := by rw [← hTL]; exact htr
        rw [htr] at hrf; have HTV := Lib.hid htr; have HTL := Lib.hid hTL; have hs7 : W.cell? ⟨gr, 7, none⟩ = some (.slice ptr TL ctr) := hrf 7
        have HTRC := Lib.hid (HPE.out.trace (by omega)); have HRT := Lib.hid (show W.ownsRow 0 73 3 (.slice ptr TL ctr) D.trace.length (didCells D.trace) from by
          have := HPE.out.ref.trace; rw [HTV.out] at this; exact this)
        have HS7 := Lib.hid hs7; have hTB : TL ≤ 1000000000 := by have := HFN.out.ok.tlen; rw [HTL.out] at this; omega
        have HRL := Lib.hid hrl; clear htr hTL hrf hs7 hrl
        go_wp2_with fail
        refine HTRC.out.mono ?_
        rintro e wT ⟨vt, rfl, hrow, hoT⟩; obtain ⟨p1, c1, rfl, hc1, hm1, hr1⟩ := own_at hrow; obtain ⟨p2, c2, hv2, hc2, hm2, hr2⟩ := own_at HRT.out; obtain ⟨rfl, -, rfl⟩ : ptr = p2 ∧ TL = D.trace.length ∧ ctr = c2 := by simpa using hv2
        have HR := Lib.hid (And.intro hr1 hr2); have HOT := Lib.hid hoT; have hgd : Tryz.prog.eqGuardType Tryz.prog.depth 73 = false := by kernel_rfl
        rw [HTL.out] at hc1 hc2; rw [HTL.out]; unfold maxLen at hm1 hm2; clear hrow hr1 hr2 hv2 hoT HTRC HRT
        go_wp2_with fail
        go_loopw [145] (fun x wq => ∃ k : Nat, x = .int .i64 k ∧ k ≤ TL ∧ Hid (Off [] wT wq)) (fun x _ => TL - (intOf x).toNat)
        case atStart => exact ⟨0, rfl, by omega, Lib.hid (Off.refl _ _)⟩
        case round =>
          obtain ⟨k, rfl, hk, HO⟩ := hrel; have h7 := ((HOT.out.trans_nil HO.out).cell (p := ⟨gr, 7, none⟩) HRL.out (by simp)).trans HS7.out
          by_cases hkt : k < TL
          · obtain ⟨x, hx⟩ : ∃ x, D.trace[k]? = some x := ⟨_, List.getElem?_eq_getElem (by rw [HTL.out]; exact hkt)⟩
            obtain ⟨g1, rfl, -, hg1, -, k1⟩ := HR.out.1 (by rw [HTL.out]; omega); obtain ⟨g2, rfl, -, hg2, -, k2⟩ := HR.out.2 (by rw [HTL.out]; omega); have a0 := (HO.out.cell (p := ⟨g1, k * 3, none⟩) hg1 (by simp)).trans (k1 _ _ (did_get7 hx 0 (by omega))); have a1 := (HO.out.cell (p := ⟨g1, k * 3 + 1, none⟩) hg1 (by simp)).trans (k1 _ _ (did_get7 hx 1 (by omega)))
            have a2 := (HO.out.cell (p := ⟨g1, k * 3 + 2, none⟩) hg1 (by simp)).trans (k1 _ _ (did_get7 hx 2 (by omega))); have b0 := ((HOT.out.trans_nil HO.out).cell (p := ⟨g2, k * 3, none⟩) hg2 (by simp)).trans (k2 _ _ (did_get7 hx 0 (by omega))); have b1 := ((HOT.out.trans_nil HO.out).cell (p := ⟨g2, k * 3 + 1, none⟩) hg2 (by simp)).trans (k2 _ _ (did_get7 hx 1 (by omega)))
            have b2 := ((HOT.out.trans_nil HO.out).cell (p := ⟨g2, k * 3 + 2, none⟩) hg2 (by simp)).trans (k2 _ _ (did_get7 hx 2 (by omega))); obtain ⟨xa, xb, xc⟩ := x; dsimp only at a0 a1 a2 b0 b1 b2; have hed := eqDid xa xb xc; have hktI : (k : Int) < TL := by omega
            clear hx k1 k2 HR
            go_wp2_with fail
            go_region
            all_goals go_wp2_with fail
            all_goals exact ⟨⟨k + 1, by congr 1, by omega, Lib.hid HO.out.drew⟩, by simp only [intOf]; omega⟩
          obtain rfl : k = TL := by omega
          go_wp2_with fail
          go_ret
          exact ⟨rfl, HO1.out.trans_nil (HPE.out.run.since.trans_nil (HOT.out.trans_nil HO.out))⟩
      have hq : ((i : Int) == 20) = false := beq_eq_false_iff_ne.2 (by omega)
      have hi19 : i ≤ 19 := by omega
      clear HPW h20; have hcc := HBO.out.cell; have hcw : W.cell? ⟨wr.heap.size, 0, none⟩ = some (.int .i64 x.what) := hcc 0
      have hcl := HBO.out.lt; clear hcc
      go_upto_block 2 with fail
      go_cut [13, 14, 15, 16, 17, 18] from 68 to 109 (fun s3 s4 s5 s6 s7 s8 wx => ∃ (u : ByteArray) (ok : Bool) (er : Int) (E : PDisk), s3 = .string u ∧ s4 = .bool ok ∧ s5 = .int .i64 er ∧ s6 = .string u ∧ s7 = .bool ok ∧ s8 = .int .i64 er ∧ Hid (SrI w1 wx gd gr E (1048584 * (i + 1))))
      case first =>
        clear hcw
        by_cases hk0 : x.what = 0
        · have hq0 : (x.what == 0) = true := beq_iff_eq.2 hk0
          clear hk0
          go_wp2_with fail
          have hpp := HPB.out.off (Off.refl [] W).drew; have hbo := HBO.out.drew
          go_region_held3 (fun W' => W'.cell? ⟨wr.heap.size, 1, none⟩ = some (.string x.path) ∧ W'.cell? ⟨wr.heap.size, 2, none⟩ = some (.string x.text)) (first | assumption | exact ⟨hbo.cell 1, hbo.cell 2⟩) (first
            | (go_at_call 22; refine (pair_save x.path x.text hpp HI.out (by omega) HZX.out.1 HZX.out.2).mono ?_; rintro e' wA ⟨rfl, hpp, hkA⟩; have hbo := hkA.blk hbo (by simp))
            | (go_at_call 28; have hfr := hpp.far wr.heap.size (by simp); refine (pair_rsave x.path x.text hpp HT1.out HI.out (by omega) HZX.out.1 HZX.out.2).mono ?_; rintro e' wB ⟨rfl, ⟨A', G', hpp⟩, hinv, hoB⟩; have hbo := hbo.off hoB hfr))
          all_goals go_wp2_with fail
          all_goals go_meet
          all_goals exact ⟨⟨#[]⟩, false, _, _, rfl, rfl, rfl, rfl, rfl, rfl, Lib.hid (SrI.of (hpp.le (by omega)) (hinv.le (by omega)))⟩
        have hn0 : (x.what == 0) = false := beq_eq_false_iff_ne.2 hk0
        by_cases hk1 : x.what = 1
        · have hq1 : (x.what == 1) = true := beq_iff_eq.2 hk1
          clear hk1 hk0; have hcp : W.cell? ⟨wr.heap.size, 1, none⟩ = some (.string x.path) := HBO.out.cell 1
          go_wp2_with fail
          refine (pair_load x.path HPB.out HI.out (by omega) HZX.out.1).mono ?_
          rintro e' wA ⟨rfl, hpp, hkA⟩; have hbo := hkA.blk HBO.out (by simp); have hcp : wA.cell? ⟨wr.heap.size, 1, none⟩ = some (.string x.path) := hbo.cell 1
          have hcl := hbo.lt; have HPA := Lib.hid hpp; clear hpp hkA hbo
          go_wp2_with fail
          refine (pair_rload x.path HPA.out HT1.out HI.out (by omega) HZX.out.1).mono ?_
          rintro e' wB ⟨rfl, ⟨A', G', hpp⟩, hinv, hoB⟩; have HPP := Lib.hid (SrI.of (hpp.le (show 1048584 * i + 4 * (262144 + 2) ≤ 1048584 * (i + 1) by omega)) (hinv.le (by omega))); clear hpp hinv hoB hcp hcl
          go_wp2_with fail
          go_meet
          exact ⟨_, _, _, _, rfl, rfl, rfl, rfl, rfl, rfl, HPP⟩
        have hn1 : (x.what == 1) = false := beq_eq_false_iff_ne.2 hk1
        by_cases hk2 : x.what = 2
        · have hq2 : (x.what == 2) = true := beq_iff_eq.2 hk2
          clear hk2 hk0 hk1
          go_wp2_with fail
          have hpp := HPB.out.off (Off.refl [] W).drew; have hbo := HBO.out.drew
          go_region_held3 (fun W' => W'.cell? ⟨wr.heap.size, 1, none⟩ = some (.string x.path)) (first | assumption | exact hbo.cell 1) (first
            | (go_at_call 25; refine (pair_clear x.path hpp HI.out (by omega) HZX.out.1).mono ?_; rintro e' wA ⟨rfl, hpp, hkA⟩; have hbo := hkA.blk hbo (by simp))
            | (go_at_call 30; have hfr := hpp.far wr.heap.size (by simp); refine (pair_rclear x.path hpp HT1.out HI.out (by omega) HZX.out.1).mono ?_; rintro e' wB ⟨rfl, ⟨A', G', hpp⟩, hinv, hoB⟩; have hbo := hbo.off hoB hfr))
          all_goals go_wp2_with fail
          all_goals go_meet
          all_goals exact ⟨⟨#[]⟩, false, _, _, rfl, rfl, rfl, rfl, rfl, rfl, Lib.hid (SrI.of (hpp.le (by omega)) (hinv.le (by omega)))⟩
        have hn2 : (x.what == 2) = false := beq_eq_false_iff_ne.2 hk2
        clear hk0 hk1 hk2
        go_wp2_with fail
        go_meet
        exact ⟨⟨#[]⟩, false, 0, D, rfl, rfl, rfl, rfl, rfl, rfl, Lib.hid (SrI.of (HPB.out.le (by omega)) (HI.out.le (by omega)))⟩
      obtain ⟨u, ok, er, E, rfl, rfl, rfl, rfl, rfl, rfl, HSE⟩ := hcut
      rename World => w8
      clear HPB HBO HI HFN hcw hcl D A G HZX; obtain ⟨A, G, hP⟩ := HSE.out.pair; have HP8 := Lib.hid hP; have HFE := Lib.hid HSE.out.inv.fine; have hrf := hP.ref.blk.cell; have hrl := hP.ref.blk.lt; unfold refCells at hrf; have hr5 : w8.cell? ⟨gr, 5, none⟩ = some (.int .i64 E.trace.length) := hrf 5
      obtain ⟨et, het⟩ : ∃ et, E.trace.length = et := ⟨_, rfl⟩
      rw [het] at hr5; have HOE := Lib.hid (tree_ok HFE.out HSE.out.inv.slim); have HSTP := Lib.hid (fun (W' : World) (ho : Off [] w8 W') => (HP8.out.off ho).steps); have HTRE := Lib.hid (fun (W' : World) (ho : Off [] w8 W') => (HP8.out.off ho).tree (by omega)); have HRTR := Lib.hid (fun (W' : World) (ho : Off [] w8 W') => (HP8.out.off ho).rtree HFE.out); rw [het] at HSTP
      have HS := Lib.hid (show ∀ W', Off [] w8 W' → W'.cell? ⟨gr, 5, none⟩ = some (.int .i64 et) from fun W' ho => (ho.cell (p := ⟨gr, 5, none⟩) hrl (by simp)).trans hr5); have HTLN := Lib.hid (show E.tree.length ≤ 100000 from by have := okTree_len HOE.out; omega); clear hP hrf hrl hr5 het
      go_wp2_with fail
      go_cut [139] from 110 to 139 (fun a wx => a = .bool false ∧ Off [] w8 wx)
      case first =>
        have hch := Off.refl [] w8.drew
        go_region_held3 (fun W' => W'.cell? ⟨gr, 5, none⟩ = some (.int .i64 et)) (first | assumption | exact HS.out _ ((Off.refl [] w8).drew.trans_nil hch)) (first
          | (go_at_call 31; refine (HSTP.out _ ((Off.refl [] w8).drew.trans_nil hch)).mono ?_; rintro e' wA ⟨rfl, hoA⟩; have hch := hch.trans_nil hoA)
          | (go_at_call 24; refine (HTRE.out _ ((Off.refl [] w8).drew.trans_nil hch)).mono ?_; rintro e' wA ⟨vn, rfl, hvn, hoA⟩; have hch := hch.trans_nil hoA; (try have hvr := own_offk (k := []) hvr hoA (by simp)))
          | (go_at_call 33; refine (HRTR.out _ ((Off.refl [] w8).drew.trans_nil hch)).mono ?_; rintro e' wA ⟨vr, rfl, hvr, hoA⟩; have hch := hch.trans_nil hoA; (try have hvn := own_offk (k := []) hvn hoA (by simp)))
          | (go_at_call 32; refine (same_own7 hvn hvr HTLN.out).mono ?_; rintro e' wA ⟨rfl, hoA⟩; have hch := hch.trans_nil hoA))
        all_goals go_wp2_with fail
        all_goals go_meet
        all_goals exact ⟨rfl, (Off.refl [] w8).drew.trans_nil hch⟩
      obtain ⟨rfl, ho9⟩ := hcut; have HSF := Lib.hid (HSE.out.off ho9); clear ho9 HSE HP8 HFE HOE HSTP HTRE HRTR HS HTLN
      go_wp2_with fail
      exact ⟨⟨i + 1, E, by congr 1, by omega, by omega, HSF⟩, by simp only [intOf]; omega⟩
    obtain rfl : i = m := by omega
    have HPW := HP; clear HP; have HPE := HPW; have hrf := HPE.out.ref.blk.cell; have hrl := HPE.out.ref.blk.lt; unfold refCells at hrf; obtain ⟨ptr, ctr, htr⟩ := row_len HPE.out.ref.trace; obtain ⟨TL, hTL⟩ : ∃ TL, D.trace.length = TL := ⟨_, rfl⟩
    have htr : G.tv = .slice ptr TL ctr := by rw [← hTL]; exact htr
    rw [htr] at hrf; have HTV := Lib.hid htr; have HTL := Lib.hid hTL; have hs7 : wr.cell? ⟨gr, 7, none⟩ = some (.slice ptr TL ctr) := hrf 7
    have HTRC := Lib.hid (HPE.out.trace (by omega)); have HRT := Lib.hid (show wr.ownsRow 0 73 3 (.slice ptr TL ctr) D.trace.length (didCells D.trace) from by
      have := HPE.out.ref.trace; rw [HTV.out] at this; exact this)
    have HS7 := Lib.hid hs7; have hTB : TL ≤ 1000000000 := by have := HFN.out.ok.tlen; rw [HTL.out] at this; omega
    have HRL := Lib.hid hrl; clear htr hTL hrf hs7 hrl
    go_wp2_with fail
    refine HTRC.out.mono ?_
    rintro e wT ⟨vt, rfl, hrow, hoT⟩; obtain ⟨p1, c1, rfl, hc1, hm1, hr1⟩ := own_at hrow; obtain ⟨p2, c2, hv2, hc2, hm2, hr2⟩ := own_at HRT.out; obtain ⟨rfl, -, rfl⟩ : ptr = p2 ∧ TL = D.trace.length ∧ ctr = c2 := by simpa using hv2
    have HR := Lib.hid (And.intro hr1 hr2); have HOT := Lib.hid hoT; have hgd : Tryz.prog.eqGuardType Tryz.prog.depth 73 = false := by kernel_rfl
    rw [HTL.out] at hc1 hc2; rw [HTL.out]; unfold maxLen at hm1 hm2; clear hrow hr1 hr2 hv2 hoT HTRC HRT
    go_wp2_with fail
    go_loopw [145] (fun x wq => ∃ k : Nat, x = .int .i64 k ∧ k ≤ TL ∧ Hid (Off [] wT wq)) (fun x _ => TL - (intOf x).toNat)
    case atStart => exact ⟨0, rfl, by omega, Lib.hid (Off.refl _ _)⟩
    case round =>
      obtain ⟨k, rfl, hk, HO⟩ := hrel; have h7 := ((HOT.out.trans_nil HO.out).cell (p := ⟨gr, 7, none⟩) HRL.out (by simp)).trans HS7.out
      by_cases hkt : k < TL
      · obtain ⟨x, hx⟩ : ∃ x, D.trace[k]? = some x := ⟨_, List.getElem?_eq_getElem (by rw [HTL.out]; exact hkt)⟩
        obtain ⟨g1, rfl, -, hg1, -, k1⟩ := HR.out.1 (by rw [HTL.out]; omega); obtain ⟨g2, rfl, -, hg2, -, k2⟩ := HR.out.2 (by rw [HTL.out]; omega); have a0 := (HO.out.cell (p := ⟨g1, k * 3, none⟩) hg1 (by simp)).trans (k1 _ _ (did_get7 hx 0 (by omega))); have a1 := (HO.out.cell (p := ⟨g1, k * 3 + 1, none⟩) hg1 (by simp)).trans (k1 _ _ (did_get7 hx 1 (by omega)))
        have a2 := (HO.out.cell (p := ⟨g1, k * 3 + 2, none⟩) hg1 (by simp)).trans (k1 _ _ (did_get7 hx 2 (by omega))); have b0 := ((HOT.out.trans_nil HO.out).cell (p := ⟨g2, k * 3, none⟩) hg2 (by simp)).trans (k2 _ _ (did_get7 hx 0 (by omega))); have b1 := ((HOT.out.trans_nil HO.out).cell (p := ⟨g2, k * 3 + 1, none⟩) hg2 (by simp)).trans (k2 _ _ (did_get7 hx 1 (by omega)))
        have b2 := ((HOT.out.trans_nil HO.out).cell (p := ⟨g2, k * 3 + 2, none⟩) hg2 (by simp)).trans (k2 _ _ (did_get7 hx 2 (by omega))); obtain ⟨xa, xb, xc⟩ := x; dsimp only at a0 a1 a2 b0 b1 b2; have hed := eqDid xa xb xc; have hktI : (k : Int) < TL := by omega
        clear hx k1 k2 HR
        go_wp2_with fail
        go_region
        all_goals go_wp2_with fail
        all_goals exact ⟨⟨k + 1, by congr 1, by omega, Lib.hid HO.out.drew⟩, by simp only [intOf]; omega⟩
      obtain rfl : k = TL := by omega
      go_wp2_with fail
      go_ret
      exact ⟨rfl, HO1.out.trans_nil (HPE.out.run.since.trans_nil (HOT.out.trans_nil HO.out))⟩
end Go.Proofs.YtgcfkljooabjjaaGreatDoor
