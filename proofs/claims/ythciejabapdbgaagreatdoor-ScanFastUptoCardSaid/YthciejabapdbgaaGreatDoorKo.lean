/- Texts of this claim, one behind the other: Round. Conditions: what each lemma states. -/
import Derived.Test.YthciejabapdbgaaGreatDoorKn
import Derived.KernelRfl
import Derived.StillTailTactics
import Derived.Deep.RegionHeld3
set_option linter.unusedVariables false
set_option linter.unusedSimpArgs false
namespace Go.Proofs.YthciejabapdbgaaGreatDoor
open Go.RowKit Go.Op
set_option maxRecDepth 100000 in
set_option maxHeartbeats 16000000 in
theorem round_any (s : St8) (b : ByteArray) (w : World) (hb : b.size = 64) :
    Calls Tryz.prog 194 #[.agg #[.int .u32 s.a, .int .u32 s.b, .int .u32 s.c, .int .u32 s.d, .int .u32 s.e, .int .u32 s.f, .int .u32 s.g, .int .u32 s.h], .string b] w fun e w' => e = .returned (.agg (wCells (roundV s b))) ∧ Off [] w w' := by
  go_enter Tryz.func194, Tryz.ntmps194
  go_upto_region 3 with (refine wpList_storeNew _ 315 _ (wCells kC) rfl _ _ rfl (by simp only [World.size_alloc]; rfl) (by kernel_rfl) (by kernel_rfl) (by kernel_rfl) (by kernel_rfl) ?_)
  refine code_gen (fun W => Hid (RM w W w.heap.size (w.heap.size + 1) (w.heap.size + 1 + 1) (w.heap.size + 1 + 1 + 1) s.list (fill1 b 0))) (Lib.hid (alloc4 w _ _ _ _ _ _ _ _)) ?_
  rintro W HW; obtain ⟨p0, hp0⟩ : ∃ p0, w.heap.size = p0 := ⟨_, rfl⟩
  rw [hp0]; rw [hp0] at HW; obtain ⟨p1, hp1⟩ : ∃ p1, p0 + 1 = p1 := ⟨_, rfl⟩
  rw [hp1]; rw [hp1] at HW; obtain ⟨p2, hp2⟩ : ∃ p2, p1 + 1 = p2 := ⟨_, rfl⟩
  rw [hp2]; rw [hp2] at HW; obtain ⟨p3, hp3⟩ : ∃ p3, p2 + 1 = p3 := ⟨_, rfl⟩
  rw [hp3]; rw [hp3] at HW; have HP := Lib.hid (show RP w p0 p1 p2 p3 from ⟨hp0, hp1, hp2, hp3⟩); clear hp0 hp1 hp2 hp3
  go_wp2_with fail
  go_loopw [21] (fun x wr => ∃ i : Nat, x = .int .i64 i ∧ i ≤ 16 ∧ Hid (RM w wr p0 p1 p2 p3 s.list (fill1 b i))) (fun x _ => 16 - (intOf x).toNat)
  case atStart => exact ⟨0, rfl, Nat.zero_le _, HW⟩
  case round =>
    clear HW; obtain ⟨i, rfl, hi, HR⟩ := hrel
    by_cases hlt : i < 16
    · have hB := HR.out.2.2.2.1
      have hlen := fill1_len b i; have c0 : wr.cell? ⟨p3, i, none⟩ = some (.int .u32 ((fill1 b i)[i]'(by omega))) := (hB.cell i).trans (wCells_at (List.getElem?_eq_getElem _))
      have hfz : wr.drew.frozen? ⟨p3, i, none⟩ = false := hB.drew.frozen i
      have hgl := hB.lt; have b0 := (byA_at (s := b) (j := 4 * i) (by omega)).symm; have b1 := (byA_at (s := b) (j := 4 * i + 1) (by omega)).symm; have b2 := (byA_at (s := b) (j := 4 * i + 2) (by omega)).symm; have b3 := (byA_at (s := b) (j := 4 * i + 3) (by omega)).symm; have n0 : IntKind.i64.wrap (4 * (i : Int)) = 4 * (i : Int) := IntWalk.i64_in _ (by omega)
      have n1 : IntKind.i64.wrap (4 * (i : Int) + 1) = 4 * (i : Int) + 1 := IntWalk.i64_in _ (by omega)
      have n2 : IntKind.i64.wrap (4 * (i : Int) + 2) = 4 * (i : Int) + 2 := IntWalk.i64_in _ (by omega)
      have n3 : IntKind.i64.wrap (4 * (i : Int) + 3) = 4 * (i : Int) + 3 := IntWalk.i64_in _ (by omega)
      have q0 : (4 * (i : Int)).toNat = 4 * i := by omega
      have q1 : (4 * (i : Int) + 1).toNat = 4 * i + 1 := by omega
      have q2 : (4 * (i : Int) + 2).toNat = 4 * i + 2 := by omega
      have q3 : (4 * (i : Int) + 3).toNat = 4 * i + 3 := by omega
      have g0 : 4 * (i : Int) < 64 := by omega
      have g1 : 4 * (i : Int) + 1 < 64 := by omega
      have g2 : 4 * (i : Int) + 2 < 64 := by omega
      have g3 : 4 * (i : Int) + 3 < 64 := by omega
      have g9 : (i : Int) < 64 := by omega
      have f0 : (0 : Int) ≤ 4 * (i : Int) := by omega
      have f1 : (0 : Int) ≤ 4 * (i : Int) + 1 := by omega
      have f2 : (0 : Int) ≤ 4 * (i : Int) + 2 := by omega
      have f3 : (0 : Int) ≤ 4 * (i : Int) + 3 := by omega
      have r0 := byA_wrap b (4 * i); have r1 := byA_wrap b (4 * i + 1); have r2 := byA_wrap b (4 * i + 2); have r3 := byA_wrap b (4 * i + 3)
      go_upto_region 6 with fail
      go_still_tail 31, (by kernel_rfl)
      change wpList _ _ _ _ _ wr.drew
      go_wp2_with fail
      refine ⟨⟨i + 1, by congr 1, by omega, Lib.hid ?_⟩, by simp only [intOf]; omega⟩
      exact (HR.out.set HP.out i _).off (Off.refl [] _).drew
    have hi16 : i = 16 := by omega
    rw [hi16] at HR; have HI16 := Lib.hid hi16; clear hi16; obtain ⟨m1, hm1⟩ : ∃ m1, fill1 b 16 = m1 := ⟨_, rfl⟩
    rw [hm1] at HR; have HM1 := Lib.hid hm1; have hl1 : m1.length = 64 := by rw [← hm1]; exact fill1_len b 16
    clear hm1 hi
    go_wp2_with fail
    go_loopw [8] (fun x wr => ∃ j : Nat, x = .int .i64 ((j : Int) + 16) ∧ j ≤ 48 ∧ Hid (RM w wr p0 p1 p2 p3 s.list (fill2 m1 j))) (fun x _ => 64 - (intOf x).toNat)
    case atStart => exact ⟨0, rfl, Nat.zero_le _, HR⟩
    case round =>
      clear HR; obtain ⟨j, rfl, hj, HR⟩ := hrel; have hlen : (fill2 m1 j).length = 64 := by rw [fill2_len]; exact hl1
      by_cases hlt : j < 48
      · as_aux_lemma =>
          have HL := Lib.hid hlen; have c1 := HR.out.word (i := j + 1) (by omega); have c14 := HR.out.word (i := j + 14) (by omega); have hgl := HR.out.2.2.2.1.lt; have g0 : (j : Int) + 16 < 64 := by omega
          have t15 : ((j : Int) + 16 - 15).toNat = j + 1 := by omega
          have t2 : ((j : Int) + 16 - 2).toNat = j + 14 := by omega
          have i15 : (0 : Int) ≤ (j : Int) + 16 - 15 := by omega
          have j15 : (j : Int) + 16 - 15 < 64 := by omega
          have i2 : (0 : Int) ≤ (j : Int) + 16 - 2 := by omega
          have j2 : (j : Int) + 16 - 2 < 64 := by omega
          obtain ⟨x, hx⟩ : ∃ x, (fill2 m1 j).getD (j + 1) 0 = x := ⟨_, rfl⟩
          obtain ⟨y, hy⟩ : ∃ y, (fill2 m1 j).getD (j + 14) 0 = y := ⟨_, rfl⟩
          rw [hx] at c1; rw [hy] at c14; have HXY := Lib.hid (And.intro hx hy); clear hx hy hlen
          go_wp2_with fail
          go_quiet (fail)
          go_wp2_with fail
          refine (rot7_any x _).mono ?_
          rintro e W2 ⟨rfl, rfl⟩
          go_wp2_with fail
          refine (rot18_any x _).mono ?_
          rintro e W3 ⟨rfl, rfl⟩
          go_wp2_with fail
          refine (rot17_any y _).mono ?_
          rintro e W4 ⟨rfl, rfl⟩
          go_wp2_with fail
          refine (rot19_any y _).mono ?_
          rintro e W5 ⟨rfl, rfl⟩
          go_upto_region 14 with fail
          refine code_gen (fun W => Hid (RM w W p0 p1 p2 p3 s.list (fill2 m1 j))) (Lib.hid (HR.out.off ((Off.refl _ _).drewN _))) ?_
          rintro W HRW; clear HR c1 c14 hgl; have hlw := HL.out; have d0 := HRW.out.word (i := j) (by omega); have d9 := HRW.out.word (i := j + 9) (by omega); have d16 := HRW.out.word (i := j + 16) (by omega); have hgl := HRW.out.2.2.2.1.lt; have hfz : W.drew.frozen? ⟨p3, j + 16, none⟩ = false := HRW.out.2.2.2.1.drew.frozen (j + 16)
          obtain ⟨u, hu⟩ : ∃ u, (fill2 m1 j).getD j 0 = u := ⟨_, rfl⟩
          obtain ⟨v, hv⟩ : ∃ v, (fill2 m1 j).getD (j + 9) 0 = v := ⟨_, rfl⟩
          obtain ⟨z, hz⟩ : ∃ z, (fill2 m1 j).getD (j + 16) 0 = z := ⟨_, rfl⟩
          rw [hu] at d0; rw [hv] at d9; rw [hz] at d16; have HUV := Lib.hid (And.intro hu hv); clear hu hv hz hlw; have k0 : ((j : Int) + 16 - 16).toNat = j := by omega
          have k1 : (0 : Int) ≤ (j : Int) + 16 - 16 := by omega
          have k2 : (j : Int) + 16 - 16 < 64 := by omega
          have k3 : ((j : Int) + 16 - 7).toNat = j + 9 := by omega
          have k4 : (0 : Int) ≤ (j : Int) + 16 - 7 := by omega
          have k5 : (j : Int) + 16 - 7 < 64 := by omega
          have k6 : ((j : Int) + 16).toNat = j + 16 := by omega
          have k7 : (0 : Int) ≤ (j : Int) + 16 := by omega
          have k8 : (j : Int) < 64 := by omega
          have k12 : (7 : Int) ≤ (j : Int) + 16 := by omega
          have k13 : (j : Int) + 16 < 71 := by omega
          have m0 : IntKind.i64.wrap ((j : Int) + 16 - 16) = (j : Int) + 16 - 16 := IntWalk.i64_in _ (by omega)
          have m1' : IntKind.i64.wrap (j : Int) = (j : Int) := IntWalk.i64_in _ (by omega)
          have m2 : IntKind.i64.wrap ((j : Int) + 16 - 7) = (j : Int) + 16 - 7 := IntWalk.i64_in _ (by omega)
          have m3 : IntKind.i64.wrap ((j : Int) + 9) = (j : Int) + 9 := IntWalk.i64_in _ (by omega)
          have k9 : (0 : Int) ≤ (j : Int) + 9 := by omega
          have k10 : (j : Int) + 9 < 64 := by omega
          have k11 : ((j : Int) + 9).toNat = j + 9 := by omega
          go_still_tail 15, (by kernel_rfl)
          change wpList _ _ _ _ _ W.drew
          go_wp2_with fail
          refine ⟨⟨j + 1, by congr 1, by omega, Lib.hid ?_⟩, by simp only [intOf]; omega⟩
          refine RM.off (W := W.setCell ⟨p3, j + 16, none⟩ (.int .u32 (nextW (fill2 m1 j) j))) (HRW.out.set HP.out (j + 16) _) ?_
          unfold nextW; rw [HUV.out.1, HXY.out.1, HUV.out.2, HXY.out.2]; exact (Off.refl [] _).drew
      have hj48 : j = 48 := by omega
      obtain ⟨m2, hm2⟩ : ∃ m2, fill2 m1 j = m2 := ⟨_, rfl⟩
      rw [hm2] at HR hlen; have HM2 := Lib.hid (And.intro hj48 hm2); clear hj48 hm2 hj; have e2 := HR.out.1.cell; have l2 := HR.out.1.lt; have s0 : wr.cell? ⟨p0, 0, none⟩ = some (.int .u32 s.a) := e2 0
      have s1 : wr.cell? ⟨p0, 1, none⟩ = some (.int .u32 s.b) := e2 1
      have s2 : wr.cell? ⟨p0, 2, none⟩ = some (.int .u32 s.c) := e2 2
      have s3 : wr.cell? ⟨p0, 3, none⟩ = some (.int .u32 s.d) := e2 3
      have s4 : wr.cell? ⟨p0, 4, none⟩ = some (.int .u32 s.e) := e2 4
      have s5 : wr.cell? ⟨p0, 5, none⟩ = some (.int .u32 s.f) := e2 5
      have s6 : wr.cell? ⟨p0, 6, none⟩ = some (.int .u32 s.g) := e2 6
      have s7 : wr.cell? ⟨p0, 7, none⟩ = some (.int .u32 s.h) := e2 7
      clear e2
      go_upto_region 16 with fail
      refine code_gen (fun W => Hid (RM w W p0 p1 p2 p3 s.list m2 ∧ Blk W wr.heap.size 256 (wCells (itR s m2 0).list) ∧ p3 < wr.heap.size)) (Lib.hid ⟨HR.out.off ((Off.refl _ _).alloc _), Blk.new wr _ _, HR.out.2.2.2.1.lt⟩) ?_
      rintro W HW; obtain ⟨p4, hp4⟩ : ∃ p4, wr.heap.size = p4 := ⟨_, rfl⟩
      rw [hp4]; rw [hp4] at HW; clear hp4 s0 s1 s2 s3 s4 s5 s6 s7 l2 HR; have HL2 := Lib.hid hlen; clear hlen
      go_wp2_with fail
      go_loopw [100] (fun x wr => ∃ r : Nat, x = .int .i64 r ∧ r ≤ 64 ∧ Hid (RM w wr p0 p1 p2 p3 s.list m2 ∧ Blk wr p4 256 (wCells (itR s m2 r).list) ∧ p3 < p4)) (fun x _ => 64 - (intOf x).toNat)
      case atStart => exact ⟨0, rfl, Nat.zero_le _, HW⟩
      case round =>
        clear HW; obtain ⟨r, rfl, hr, HW⟩ := hrel; obtain ⟨sr, hsr⟩ : ∃ sr, itR s m2 r = sr := ⟨_, rfl⟩
        rw [hsr] at HW; have HSR := Lib.hid hsr; clear hsr
        by_cases hlt : r < 64
        · have e2 := HW.out.2.1.cell
          have l2 := HW.out.2.1.lt; have s0 : wr.cell? ⟨p4, 0, none⟩ = some (.int .u32 sr.a) := e2 0
          have s4 : wr.cell? ⟨p4, 4, none⟩ = some (.int .u32 sr.e) := e2 4
          clear e2
          go_wp2_with fail
          go_quiet (fail)
          go_upto_region 20 with fail
          refine code_gen (fun W => Hid (RM w W p0 p1 p2 p3 s.list m2 ∧ Blk W p4 256 (wCells sr.list) ∧ p3 < p4)) (Lib.hid ⟨HW.out.1.off ((Off.refl [] _).drewN _), HW.out.2.1.off ((Off.refl [] _).drewN _) List.not_mem_nil, HW.out.2.2⟩) ?_
          clear s0 s4 l2 HW; rintro W HW; have SP := Lib.hid (show ∀ W', Off [] W W' → (W'.cell? ⟨p4, 7, none⟩ = some (.int .u32 sr.h) ∧ W'.cell? ⟨p4, 5, none⟩ = some (.int .u32 sr.f) ∧ W'.cell? ⟨p4, 6, none⟩ = some (.int .u32 sr.g)) ∧ W'.cell? ⟨p2, r, none⟩ = some (.int .u32 (kC.getD r 0)) ∧ W'.cell? ⟨p3, r, none⟩ = some (.int .u32 (m2.getD r 0)) from fun W' ho => by
            have h4 := (HW.out.2.1.off ho List.not_mem_nil).cell; have hM := HW.out.1.off ho; refine ⟨⟨h4 7, h4 5, h4 6⟩, ?_, hM.word (by rw [HL2.out]; exact hlt)⟩; have hr : r < kC.length := by rw [kC_len]; exact hlt
            rw [hM.2.2.1.cell, wCells_get, List.getElem?_eq_getElem hr, List.getD_eq_getElem?_getD, List.getElem?_eq_getElem hr]
            rfl)
          obtain ⟨kr, hkr⟩ : ∃ kr, kC.getD r 0 = kr := ⟨_, rfl⟩
          obtain ⟨mr, hmr⟩ : ∃ mr, m2.getD r 0 = mr := ⟨_, rfl⟩
          rw [hkr, hmr] at SP; have HKM := Lib.hid (And.intro hkr hmr); clear hkr hmr; have hl2 := HW.out.1.2.2.1.lt; have hl3 := HW.out.1.2.2.2.1.lt; have hl4 := HW.out.2.1.lt; have hrI : (r : Int) < 64 := by omega
          go_cut [17, 101] from 107 to 136 (fun v q wx => v = .int .u32 (stepT sr kr mr) ∧ q = .bool true ∧ Off [] W wx)
          case first =>
            as_aux_lemma =>
              have hch := Off.refl [] W.drew
              go_region_held3 (fun W' => (W'.cell? ⟨p4, 7, none⟩ = some (.int .u32 sr.h) ∧ W'.cell? ⟨p4, 5, none⟩ = some (.int .u32 sr.f) ∧ W'.cell? ⟨p4, 6, none⟩ = some (.int .u32 sr.g)) ∧ W'.cell? ⟨p2, r, none⟩ = some (.int .u32 kr) ∧ W'.cell? ⟨p3, r, none⟩ = some (.int .u32 mr)) (exact SP.out _ ((Off.refl [] W).drew.trans_nil hch)) (first
                | (go_at_call 270; with_reducible refine (rot6_any sr.e _).mono ?_; rintro e' wA ⟨rfl, rfl⟩)
                | (go_at_call 270; with_reducible refine (rot11_any sr.e _).mono ?_; rintro e' wA ⟨rfl, rfl⟩)
                | (go_at_call 270; with_reducible refine (rot25_any sr.e _).mono ?_; rintro e' wA ⟨rfl, rfl⟩))
              all_goals go_wp2_with fail
              all_goals go_meet
              all_goals exact ⟨rfl, rfl, (Off.refl [] W).drew.trans_nil hch⟩
          obtain ⟨rfl, rfl, ho20⟩ := hcut; have HW2 := Lib.hid (And.intro (HW.out.1.off ho20) (And.intro (HW.out.2.1.off ho20 List.not_mem_nil) HW.out.2.2)); obtain ⟨T, hT⟩ : ∃ T, stepT sr kr mr = T := ⟨_, rfl⟩
          rw [hT]; have HT := Lib.hid hT; clear hT hl2 hl3 hl4 ho20 HW SP hrI; have SP := Lib.hid (show ∀ W', Off [] wc W' → (W'.cell? ⟨p4, 1, none⟩ = some (.int .u32 sr.b) ∧ W'.cell? ⟨p4, 2, none⟩ = some (.int .u32 sr.c)) from fun W' ho => by
            have h4 := (HW2.out.2.1.off ho List.not_mem_nil).cell; exact ⟨h4 1, h4 2⟩)
          have hl4 := HW2.out.2.1.lt
          go_upto_region 21 with fail
          go_cut [18] from 137 to 160 (fun v wx => v = .int .u32 (stepS sr) ∧ Off [] wc wx)
          case first =>
            as_aux_lemma =>
              have hch := Off.refl [] wc.drew
              go_region_held3 (fun W' => W'.cell? ⟨p4, 1, none⟩ = some (.int .u32 sr.b) ∧ W'.cell? ⟨p4, 2, none⟩ = some (.int .u32 sr.c)) (exact SP.out _ ((Off.refl [] wc).drew.trans_nil hch)) (first
                | (go_at_call 270; with_reducible refine (rot2_any sr.a _).mono ?_; rintro e' wA ⟨rfl, rfl⟩)
                | (go_at_call 270; with_reducible refine (rot13_any sr.a _).mono ?_; rintro e' wA ⟨rfl, rfl⟩)
                | (go_at_call 270; with_reducible refine (rot22_any sr.a _).mono ?_; rintro e' wA ⟨rfl, rfl⟩))
              all_goals go_wp2_with fail
              all_goals go_meet
              all_goals exact ⟨rfl, (Off.refl [] wc).drew.trans_nil hch⟩
          obtain ⟨rfl, ho21⟩ := hcut; have HW3 := Lib.hid (And.intro (HW2.out.1.off ho21) (And.intro (HW2.out.2.1.off ho21 List.not_mem_nil) HW2.out.2.2)); obtain ⟨S2, hS2⟩ : ∃ S2, stepS sr = S2 := ⟨_, rfl⟩
          rw [hS2]; have HS2 := Lib.hid hS2; clear hS2 hl4 ho21 HW2 SP; have e2 := HW3.out.2.1.cell; have l2 := HW3.out.2.1.lt; have s0 : wc.cell? ⟨p4, 0, none⟩ = some (.int .u32 sr.a) := e2 0
          have s1 : wc.cell? ⟨p4, 1, none⟩ = some (.int .u32 sr.b) := e2 1
          have s2 : wc.cell? ⟨p4, 2, none⟩ = some (.int .u32 sr.c) := e2 2
          have s3 : wc.cell? ⟨p4, 3, none⟩ = some (.int .u32 sr.d) := e2 3
          have s4 : wc.cell? ⟨p4, 4, none⟩ = some (.int .u32 sr.e) := e2 4
          have s5 : wc.cell? ⟨p4, 5, none⟩ = some (.int .u32 sr.f) := e2 5
          have s6 : wc.cell? ⟨p4, 6, none⟩ = some (.int .u32 sr.g) := e2 6
          have s7 : wc.cell? ⟨p4, 7, none⟩ = some (.int .u32 sr.h) := e2 7
          have fz := HW3.out.2.1.frozen; clear e2
          go_wp2_with fail
          refine ⟨⟨r + 1, by congr 1, by omega, Lib.hid ⟨HW3.out.1.own HP.out HW3.out.2.2 (put8_off _ _ _ _ _ _ _ _ _ _), ?_, HW3.out.2.2⟩⟩, by simp only [intOf]; omega⟩
          have hst : itR s m2 (r + 1) = stepR sr kr mr := by
            show stepR (itR s m2 r) (kC.getD r 0) (m2.getD r 0) = _
            rw [HSR.out, HKM.out.1, HKM.out.2]
          rw [hst]; unfold stepR; rw [HT.out, HS2.out]; exact put8_blk HW3.out.2.1 rfl _ _ _ _ _ _ _ _
        have hr64 : r = 64 := by omega
        have HR64 := Lib.hid hr64; clear hr64 hr
        go_wp2_with fail
        go_loopw [182] (fun x wr => ∃ q : Nat, x = .int .i64 q ∧ q ≤ 8 ∧ Hid (RM w wr p0 p1 p2 p3 s.list m2 ∧ Blk wr p4 256 (wCells (addI sr.list s.list q)) ∧ p3 < p4)) (fun x _ => 8 - (intOf x).toNat)
        case atStart => exact ⟨0, rfl, Nat.zero_le _, HW⟩
        case round =>
          clear HW; obtain ⟨q, rfl, hq, HQ⟩ := hrel; obtain ⟨L, hL⟩ : ∃ L, addI sr.list s.list q = L := ⟨_, rfl⟩
          have hLl : L.length = 8 := by rw [← hL, addI_len]; rfl
          rw [hL] at HQ; have HLL := Lib.hid (And.intro hL hLl)
          by_cases hlt4 : q < 8
          · have c4 := kC_at HQ.out.2.1 (r := q) (by omega)
            have c0 := kC_at HQ.out.1.1 (r := q) (show q < 8 from hlt4); have hl4 := HQ.out.2.1.lt; have hl0 := HQ.out.1.1.lt; have hfz : wr.drew.frozen? ⟨p4, q, none⟩ = false := HQ.out.2.1.drew.frozen q
            obtain ⟨xq, hxq⟩ : ∃ xq, L.getD q 0 = xq := ⟨_, rfl⟩
            obtain ⟨yq, hyq⟩ : ∃ yq, s.list.getD q 0 = yq := ⟨_, rfl⟩
            rw [hxq] at c4; rw [hyq] at c0; have HXY := Lib.hid (And.intro hxq hyq); clear hxq hyq hL hLl; have hqI : (q : Int) < 8 := by omega
            go_upto_region 27 with fail
            go_still_tail 8, (by kernel_rfl)
            change wpList _ _ _ _ _ wr.drew
            go_wp2_with fail
            have hoq : Off [p4] wr (wr.setCell ⟨p4, q, none⟩ (.int .u32 ((xq + yq) % 4294967296))) := (Off.refl _ _).setCell (.inr (by simp)) _
            refine ⟨⟨q + 1, by congr 1, by omega, Lib.hid ⟨(HQ.out.1.own HP.out HQ.out.2.2 hoq).off (Off.refl [] _).drew, ?_, HQ.out.2.2⟩⟩, by simp only [intOf]; omega⟩
            have hst : addI sr.list s.list (q + 1) = L.set q ((xq + yq) % 4294967296) := by
              show (addI sr.list s.list q).set q (((addI sr.list s.list q).getD q 0 + s.list.getD q 0) % 4294967296) = _
              rw [HLL.out.1, HXY.out.1, HXY.out.2]
            rw [hst, ← wCells_set]; exact (HQ.out.2.1.set_ q _).drew
          have hq8 : q = 8 := by omega
          have d0 : wr.cell? ⟨p4, 0, none⟩ = some (.int .u32 (L.getD 0 0)) := kC_at HQ.out.2.1 (by omega)
          have d1 : wr.cell? ⟨p4, 1, none⟩ = some (.int .u32 (L.getD 1 0)) := kC_at HQ.out.2.1 (by omega)
          have d2 : wr.cell? ⟨p4, 2, none⟩ = some (.int .u32 (L.getD 2 0)) := kC_at HQ.out.2.1 (by omega)
          have d3 : wr.cell? ⟨p4, 3, none⟩ = some (.int .u32 (L.getD 3 0)) := kC_at HQ.out.2.1 (by omega)
          have d4 : wr.cell? ⟨p4, 4, none⟩ = some (.int .u32 (L.getD 4 0)) := kC_at HQ.out.2.1 (by omega)
          have d5 : wr.cell? ⟨p4, 5, none⟩ = some (.int .u32 (L.getD 5 0)) := kC_at HQ.out.2.1 (by omega)
          have d6 : wr.cell? ⟨p4, 6, none⟩ = some (.int .u32 (L.getD 6 0)) := kC_at HQ.out.2.1 (by omega)
          have d7 : wr.cell? ⟨p4, 7, none⟩ = some (.int .u32 (L.getD 7 0)) := kC_at HQ.out.2.1 (by omega)
          have hl4 := HQ.out.2.1.lt; have hl1 := HQ.out.1.2.1.lt; have b0 : wr.cell? ⟨p1, 0, none⟩ = some (.int .u32 0) := HQ.out.1.2.1.cell 0
          have b1 : wr.cell? ⟨p1, 1, none⟩ = some (.int .u32 0) := HQ.out.1.2.1.cell 1
          have b2 : wr.cell? ⟨p1, 2, none⟩ = some (.int .u32 0) := HQ.out.1.2.1.cell 2
          have b3 : wr.cell? ⟨p1, 3, none⟩ = some (.int .u32 0) := HQ.out.1.2.1.cell 3
          have b4 : wr.cell? ⟨p1, 4, none⟩ = some (.int .u32 0) := HQ.out.1.2.1.cell 4
          have b5 : wr.cell? ⟨p1, 5, none⟩ = some (.int .u32 0) := HQ.out.1.2.1.cell 5
          have b6 : wr.cell? ⟨p1, 6, none⟩ = some (.int .u32 0) := HQ.out.1.2.1.cell 6
          have b7 : wr.cell? ⟨p1, 7, none⟩ = some (.int .u32 0) := HQ.out.1.2.1.cell 7
          have hf1 := HQ.out.1.2.1.frozen; obtain ⟨x0, hx0⟩ : ∃ x, L.getD 0 0 = x := ⟨_, rfl⟩
          rw [hx0] at d0; obtain ⟨x1, hx1⟩ : ∃ x, L.getD 1 0 = x := ⟨_, rfl⟩
          rw [hx1] at d1; obtain ⟨x2, hx2⟩ : ∃ x, L.getD 2 0 = x := ⟨_, rfl⟩
          rw [hx2] at d2; obtain ⟨x3, hx3⟩ : ∃ x, L.getD 3 0 = x := ⟨_, rfl⟩
          rw [hx3] at d3; obtain ⟨x4, hx4⟩ : ∃ x, L.getD 4 0 = x := ⟨_, rfl⟩
          rw [hx4] at d4; obtain ⟨x5, hx5⟩ : ∃ x, L.getD 5 0 = x := ⟨_, rfl⟩
          rw [hx5] at d5; obtain ⟨x6, hx6⟩ : ∃ x, L.getD 6 0 = x := ⟨_, rfl⟩
          rw [hx6] at d6; obtain ⟨x7, hx7⟩ : ∃ x, L.getD 7 0 = x := ⟨_, rfl⟩
          rw [hx7] at d7; have HXS := Lib.hid (And.intro hx0 (And.intro hx1 (And.intro hx2 (And.intro hx3 (And.intro hx4 (And.intro hx5 (And.intro hx6 hx7))))))); have HQ8 := Lib.hid hq8; clear hL hLl hx0 hx1 hx2 hx3 hx4 hx5 hx6 hx7 hq8 hq; have hres : Tryz.f194.results = #[.cell 4 256] := rfl
          go_wp2_with fail
          have hB := put8_blk HQ.out.1.2.1 (by simp) x0 x1 x2 x3 x4 x5 x6 x7; have hO := HQ.out.1.2.2.2.2.trans (put8_off wr p1 (.int .u32 x0) (.int .u32 x1) (.int .u32 x2) (.int .u32 x3) (.int .u32 x4) (.int .u32 x5) (.int .u32 x6) (.int .u32 x7)) (fun x hx hm => by
            obtain ⟨e0, e1, e2, e3⟩ := HP.out; rw [List.mem_singleton] at hm; omega)
          have hV : wCells (roundV s b) = #[.int .u32 x0, .int .u32 x1, .int .u32 x2, .int .u32 x3, .int .u32 x4, .int .u32 x5, .int .u32 x6, .int .u32 x7] := by
            have h1 : roundV s b = L := by
              unfold roundV; rw [← HLL.out.1, HQ8.out, ← HSR.out, HR64.out, ← HM2.out.2, HM2.out.1, ← HM1.out]
            obtain ⟨y0, y1, y2, y3, y4, y5, y6, y7⟩ := HXS.out; have h2 := list8 HLL.out.2; rw [y0, y1, y2, y3, y4, y5, y6, y7] at h2; rw [h1, h2]
            rfl
          rw [hV]; clear hV d0 d1 d2 d3 d4 d5 d6 d7 b0 b1 b2 b3 b4 b5 b6 b7 hl4 hl1 hf1
          change bodyPost _ _ _ _ _ (put8 wr p1 (.int .u32 x0) (.int .u32 x1) (.int .u32 x2) (.int .u32 x3) (.int .u32 x4) (.int .u32 x5) (.int .u32 x6) (.int .u32 x7))
          generalize (put8 wr p1 (.int .u32 x0) (.int .u32 x1) (.int .u32 x2) (.int .u32 x3) (.int .u32 x4) (.int .u32 x5) (.int .u32 x6) (.int .u32 x7)) = W8 at hB hO ⊢
          have l8 := hB.lt; have t0 : W8.cell? ⟨p1, 0, none⟩ = some (.int .u32 x0) := hB.cell 0
          have t1 : W8.cell? ⟨p1, 1, none⟩ = some (.int .u32 x1) := hB.cell 1
          have t2 : W8.cell? ⟨p1, 2, none⟩ = some (.int .u32 x2) := hB.cell 2
          have t3 : W8.cell? ⟨p1, 3, none⟩ = some (.int .u32 x3) := hB.cell 3
          have t4 : W8.cell? ⟨p1, 4, none⟩ = some (.int .u32 x4) := hB.cell 4
          have t5 : W8.cell? ⟨p1, 5, none⟩ = some (.int .u32 x5) := hB.cell 5
          have t6 : W8.cell? ⟨p1, 6, none⟩ = some (.int .u32 x6) := hB.cell 6
          have t7 : W8.cell? ⟨p1, 7, none⟩ = some (.int .u32 x7) := hB.cell 7
          refine bodyPost_ret (v := .agg #[.int .u32 x0, .int .u32 x1, .int .u32 x2, .int .u32 x3, .int .u32 x4, .int .u32 x5, .int .u32 x6, .int .u32 x7]) ?_ rfl ⟨rfl, hO⟩
          simp only [results, hres]
          go_simp
end Go.Proofs.YthciejabapdbgaaGreatDoor
