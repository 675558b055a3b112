/- Texts of this claim, one behind the other: DOff DReads DStamps. Conditions: what each lemma states. -/
import Derived.Test.YtgcfkljooabjjaaGreatDoorFk
import Derived.Test.YtgcfkljooabjjaaGreatDoorFi
import Derived.Test.YtgcfkljooabjjaaGreatDoorFl
/- hawserlaw07.DiskOff: the walk. Conditions: the tables of unicode/utf8 are laid. -/
namespace Go.Proofs.YtgcfkljooabjjaaGreatDoor
open Go.RowKit Go.Op Go.Maps

/-- a list of calls in memory -/
structure CallAt (w : World) (a : Addr) (c : CallP) : Prop where
  what : w.cell? a = some (.int .i64 c.what)
  path : w.cell? ⟨a.block, a.off + 1, none⟩ = some (.string c.path)
  to_ : w.cell? ⟨a.block, a.off + 2, none⟩ = some (.string c.to_)
  data : w.cell? ⟨a.block, a.off + 3, none⟩ = some (.string c.data)
  mode : w.cell? ⟨a.block, a.off + 4, none⟩ = some (.int .i64 c.mode)
def CRow (w : World) (p : Option Addr) (cs : List CallP) : Prop :=
  cs ≠ [] → ∃ a, p = some a ∧ a.block < w.heap.size ∧ ∀ (i : Nat) (c : CallP), cs[i]? = some c → CallAt w (a.add (i * 5)) c
theorem CallAt.off {w w' : World} {a : Addr} {c : CallP} (h : CallAt w a c) (ho : Off [] w w') (hb : a.block < w.heap.size) : CallAt w' a c :=
  ⟨(ho.cell hb (by simp)).trans h.what, (ho.cell (p := ⟨a.block, a.off + 1, none⟩) hb (by simp)).trans h.path, (ho.cell (p := ⟨a.block, a.off + 2, none⟩) hb (by simp)).trans h.to_, (ho.cell (p := ⟨a.block, a.off + 3, none⟩) hb (by simp)).trans h.data, (ho.cell (p := ⟨a.block, a.off + 4, none⟩) hb (by simp)).trans h.mode⟩
theorem CRow.off {w w' : World} {p : Option Addr} {cs : List CallP} (h : CRow w p cs) (ho : Off [] w w') : CRow w' p cs := fun hne => by
  obtain ⟨a, rfl, hb, hn⟩ := h hne
  exact ⟨a, rfl, Nat.lt_of_lt_of_le hb ho.size, fun i n hi => (hn i n hi).off ho (by rw [add_block]; exact hb)⟩
theorem CRow.get {w : World} {p : Option Addr} {cs : List CallP} (h : CRow w p cs) (i : Nat) (hi : i < cs.length) : ∃ a, p = some a ∧ CallAt w (a.add (i * 5)) cs[i] ∧ a.block < w.heap.size := by
  obtain ⟨a, rfl, hb, hn⟩ := h (by intro e; subst e; simp at hi)
  exact ⟨a, rfl, hn i _ (List.getElem?_eq_getElem hi), hb⟩
theorem eqNode0 (w : World) : (Op.equalIn 10000 30 (.agg #[.string ⟨#[]⟩, .int .i64 0, .string ⟨#[]⟩, .int .i64 0]) (.agg #[.string ⟨#[]⟩, .int .i64 0, .string ⟨#[]⟩, .int .i64 0])).run Tryz.prog w = .ok true w := by
  have := eqNode ⟨⟨#[]⟩, 0, ⟨#[]⟩, 0⟩ ⟨⟨#[]⟩, 0, ⟨#[]⟩, 0⟩ w
  rw [decide_eq_true rfl] at this
  exact this
theorem eqStamp0 (w : World) : (Op.equalIn 10000 39 (.agg #[.int .i64 0, .int .i64 0, .int .i64 0]) (.agg #[.int .i64 0, .int .i64 0, .int .i64 0])).run Tryz.prog w = .ok true w := by
  have u3 := Tryz.underlying3
  have a3 := Tryz.isAgg3
  have z3 := Tryz.sizeOf3
  have hS : Tryz.prog.underlying 39 = some (.struct (Tryz.prog.fieldsOf 39)) := by kernel_rfl
  have hp : Tryz.prog.stoodInHeld 39 = false := by kernel_rfl
  rw [show (10000 : Nat) = 9999 + 1 from rfl, run_equalIn_agg w 9999 39 _ _ hS hp]
  simp only [Program.fieldsOf, Tryz.underlying39]
  go_simp
theorem offD_boot {t : List Node} {f : FateP} (hs : Sorted t) (ha : f.at_ = 0) (hw : f.what = 3) : ((offD t f).boot []).off = false ∧ ((offD t f).boot []).trace = [] ∧ ((offD t f).boot []).tree = t ∧ ((offD t f).boot []).flush.1 = 0 := by
  obtain ⟨h1, h2, h3, h4⟩ := offD_eq (t := t) ha hw
  refine ⟨rfl, rfl, tree_new hs h3 h4, ?_⟩
  unfold PDisk.flush
  rw [call_run (step_free _ _ _ rfl rfl)]
theorem run_ask_off {w0 wr w : World} {p n : Nat} {D : PDisk} (h : Run w0 wr p D n) (hof : Off [] wr w) (hn : n ≤ 1000000) (hoff : D.off = true) (x : CallP) (h10 : x.what ≠ 10) :
    Calls Tryz.prog 35 #[.pointer (some ⟨p, 0, none⟩), .agg #[.int .i64 x.what, .string x.path, .string x.to_, .string x.data, .int .i64 x.mode]] w fun e w' => (∃ k : Int, e = .returned (.tuple #[.int .i64 k, .agg #[.string ⟨#[]⟩, .int .i64 0, .string ⟨#[]⟩, .int .i64 0], .agg #[.int .i64 0, .int .i64 0, .int .i64 0], .slice none 0 0]) ∧ (0 ≤ x.what → x.what ≤ 9 → k = 75)) ∧ Run w0 w' p D (n + 1) ∧ ∀ (b : Nat) (t : TypeId) (cs : Array Value), wr.heap.size ≤ b → Blk w b t cs → Blk w' b t cs := by
  obtain ⟨G, h1, h2, h3, h4⟩ := h
  refine (ask_off p n G D x w (h1.off hof) hn hoff h10).mono fun e w' ⟨he, hT⟩ => ⟨he, Run.next (h2.trans_nil hof) h3 h4 hT, fun b t cs hb hB => ?_⟩
  obtain ⟨G2, -, ho, -⟩ := hT
  refine hB.off ho (fun hm => ?_)
  rcases List.mem_cons.1 hm with rfl | hm
  · have := h1.m.blk.lt; omega
  · have := h1.m.parts.lt hm; omega
set_option maxRecDepth 100000 in
set_option maxHeartbeats 16000000 in
theorem doff_any (fp : Option Addr) (t : List Node) (n c : Nat) (cp : Option Addr) (cs : List CallP) (m d : Nat) (f : FateP) (w : World) (hR : Row w fp t) (hn : t.length = n) (hc : n ≤ c) (hcm : c ≤ maxLen) (hF : Fits t)
    (hC : CRow w cp cs) (hm : cs.length = m) (hmd : m ≤ d) (_hdm : d ≤ maxLen) (hT : Tabs w) :
    Calls Tryz.prog 12 #[.slice fp n c, .slice cp m d, .agg #[.int .i64 f.at_, .int .i64 f.what, .int .i64 f.keep, .int .i64 f.torn]] w fun e w' => e = .returned (.bool true) ∧ Off [] w w' := by
  have HT := Lib.hid hT
  have HR0 := Lib.hid hR
  have HC0 := Lib.hid hC
  have HN := Lib.hid hn
  have HM := Lib.hid hm
  have HFT := Lib.hid hF
  have HAW := Lib.hid (fun (W : World) (ho : Off [] w W) => dawake_any W (hT.off ho))
  unfold maxLen at hcm
  clear hT hR hn hC hm hF
  go_enter Tryz.func12, Tryz.ntmps12
  go_upto_region 1 with fail
  refine code_gen (fun W => Blk W w.heap.size 23 #[.int .i64 f.at_, .int .i64 f.what, .int .i64 f.keep, .int .i64 f.torn] ∧ Off [] w W) ⟨Blk.new w _ _, (Off.refl _ _).alloc _⟩ ?_
  rintro W ⟨hbf, hof⟩
  have HBF := Lib.hid hbf
  have HOF := Lib.hid hof
  clear hbf hof
  go_wp2_with fail
  refine (HAW.out W HOF.out).mono ?_
  rintro e w1 ⟨rfl, ho1⟩
  have HB1 := Lib.hid (HBF.out.off ho1 (by simp))
  have HO1 := Lib.hid (HOF.out.trans_nil ho1)
  clear ho1 HAW HBF HOF
  by_cases hok : okTree t = true
  case neg =>
    have hok : okTree t = false := by simpa using hok
    have HNB := Lib.hid (dnew_bad fp t n c w1 (HR0.out.off HO1.out) HN.out hc (by unfold maxLen; omega) hok HFT.out (HT.out.off HO1.out))
    clear hok
    go_wp2_with fail
    refine HNB.out.mono ?_
    rintro e w2 ⟨rfl, ho2⟩
    go_wp2_with fail
    go_ret
    exact ⟨rfl, HO1.out.trans_nil ho2⟩
  have HSRT := Lib.hid (okTree_sorted hok)
  have HLEN := Lib.hid (okTree_len hok)
  have HNEW := Lib.hid (run_new fp t n c w1 w1 (Off.refl _ _) (HT.out.off HO1.out) (HR0.out.off HO1.out) HN.out hc hok HFT.out)
  clear hok
  go_wp2_with fail
  refine HNEW.out.mono ?_
  rintro e w2 ⟨gd, rfl, hr⟩
  have HR2 := Lib.hid hr
  have hbf := HB1.out.off hr.since (by simp)
  have hcf := hbf.cell
  have hlf := hbf.lt
  clear hr HNEW hbf
  go_wp2_with fail
  refine (run_boot (HR2.out.off ((Off.refl [] _).alloc _)) (some ⟨_, 0, none⟩) [⟨0, 3, f.keep, f.torn⟩] 1 1 (FRow.one _ (Blk.new _ _ _)) rfl (by decide) (fun h => by cases h)).mono ?_
  rintro e w3 ⟨rfl, hr⟩
  have HR3 := Lib.hid hr
  clear hr hcf hlf HR2
  have HFL := Lib.hid (run_flush HR3.out (by omega))
  have HOD := Lib.hid (offD_eq (t := t) (f := ⟨0, 3, f.keep, f.torn⟩) rfl rfl)
  have HOB := Lib.hid (offD_boot (t := t) (f := ⟨0, 3, f.keep, f.torn⟩) HSRT.out rfl rfl)
  have hff := offD_flush (t := t) (f := ⟨0, 3, f.keep, f.torn⟩) rfl rfl
  have hf1 : ((newD t).boot [⟨0, 3, f.keep, f.torn⟩]).flush.1 = 75 := by rw [hff]
  rw [hf1] at HFL
  clear hff hf1
  go_wp2_with fail
  refine HFL.out.mono ?_
  rintro e w4 ⟨rfl, hr⟩
  have hr : Run w1 w4 gd (offD t ⟨0, 3, f.keep, f.torn⟩) (0 + 2) := hr
  have HR4 := Lib.hid hr
  clear hr HFL HR3
  obtain ⟨D, hD⟩ : ∃ D, offD t ⟨0, 3, f.keep, f.torn⟩ = D := ⟨_, rfl⟩
  rw [hD] at HOD HOB HR4
  clear hD
  go_wp2_with fail
  refine (run_steps HR4.out).mono ?_
  rintro e w5 ⟨he, hr⟩
  rw [HOD.out.2.1] at he
  have he : e = .returned (.int .i64 1) := he
  subst he
  have HR5 := Lib.hid hr
  clear hr HR4
  go_wp2_with fail
  go_loopw [44] (fun x wr => ∃ i : Nat, x = .int .i64 i ∧ i ≤ m ∧ i ≤ 40 ∧ Hid (Run w1 wr gd D (2 + i))) (fun x _ => m - (intOf x).toNat)
  case atStart => exact ⟨0, rfl, by omega, by omega, Lib.hid HR5.out⟩
  case round =>
    clear HR5
    obtain ⟨i, rfl, hi, hi40, HRW⟩ := hrel
    by_cases hlt : i < m
    · have hil : i < cs.length := by rw [HM.out]; exact hlt
      obtain ⟨a, rfl, hca, hab⟩ := (HC0.out.off (HO1.out.trans_nil HRW.out.since)).get i hil
      generalize cs[i] = x at hca
      have c0 := hca.what
      have c1 := hca.path
      have c2 := hca.to_
      have c3 := hca.data
      have c4 := hca.mode
      have hilt : (i : Int) < m := by omega
      have habk : (a.add (i * 5)).block < wr.heap.size := by rw [add_block]; exact hab
      clear hca hab hil
      go_upto_region 12 with fail
      refine code_gen (fun W => Blk W wr.heap.size 77 #[.int .i64 x.what, .string x.path, .string x.to_, .string x.data, .int .i64 x.mode] ∧ Off [] wr W) ⟨Blk.new _ _ _, (Off.refl _ _).alloc _⟩ ?_
      rintro W ⟨hbc, hof⟩
      clear c0 c1 c2 c3 c4 habk
      have HBC := Lib.hid hbc
      have hcc := hbc.cell
      have HOX := Lib.hid hof
      have HRR := Lib.hid HRW.out
      have HRC := Lib.hid (HRW.out.off hof)
      clear hbc hof HRW
      by_cases h40 : i = 40
      · have hq : ((i : Int) == 40) = true := by rw [h40]; rfl
        clear h40
        go_wp2_with fail
        refine (run_boot HRC.out none [] 0 0 (FRow.nil _ _) rfl (by decide) (fun _ => rfl)).mono ?_
        rintro e wa ⟨rfl, hr⟩
        have HRA := Lib.hid hr
        clear hr
        go_wp2_with fail
        refine (run_on HRA.out).mono ?_
        rintro e wb ⟨he, hr⟩
        rw [HOB.out.1] at he
        have he : e = .returned (.bool true) := he
        subst he
        have HRB := Lib.hid hr
        clear hr HRA
        go_wp2_with fail
        refine (run_steps HRB.out).mono ?_
        rintro e wc ⟨he, hr⟩
        rw [HOB.out.2.1] at he
        have he : e = .returned (.int .i64 0) := he
        subst he
        have HRC2 := Lib.hid hr
        clear hr HRB
        go_wp2_with fail
        refine (run_trace HRC2.out (by omega)).mono ?_
        rintro e wd ⟨pa, pc, he, hr, ho⟩
        rw [HOB.out.2.1] at he
        have he : e = .returned (.slice pa 0 pc) := he
        subst he
        have HRD := Lib.hid hr
        clear hr HRC2 ho
        go_wp2_with fail
        refine (run_tree HRD.out (by omega)).mono ?_
        rintro e wf ⟨v, rfl, hrow, ho, hr⟩
        rw [HOB.out.2.2.1] at hrow
        obtain ⟨qa, qc, hv, hqr, -⟩ := own_row hrow
        rw [HN.out] at hv
        subst hv
        have HSM := Lib.hid (rsame_any t t qa fp qc c wf (by have := HLEN.out; omega) (by have := HLEN.out; omega) hqr (HR0.out.off (HO1.out.trans_nil hr.since)))
        rw [decide_eq_true rfl, HN.out] at HSM
        have HRF := Lib.hid hr
        clear hr hrow hqr ho HRD
        go_wp2_with fail
        refine HSM.out.mono ?_
        rintro e wg ⟨rfl, hog⟩
        have HRG := Lib.hid (HRF.out.off hog)
        clear hog HRF HSM
        have HFL := Lib.hid (run_flush HRG.out (by omega))
        rw [HOB.out.2.2.2] at HFL
        go_wp2_with fail
        refine HFL.out.mono ?_
        rintro e wh ⟨rfl, hr⟩
        have HOZ := Lib.hid (HO1.out.trans_nil hr.since)
        clear hr HFL HRG
        go_wp2_with fail
        go_ret
        exact ⟨rfl, HOZ.out⟩
      have hq : ((i : Int) == 40) = false := beq_eq_false_iff_ne.2 (by omega)
      by_cases h10 : x.what = 10
      · rw [h10] at hcc
        go_wp2_with fail
        exact ⟨⟨i + 1, by congr 1, by omega, by omega, Lib.hid (HRC.out.le (by omega))⟩, by simp only [intOf]; omega⟩
      have hw10 : (x.what == 10) = false := beq_eq_false_iff_ne.2 h10
      have HASK := Lib.hid (run_ask_off HRR.out HOX.out (by omega) HOD.out.1 x h10)
      go_wp2_with fail
      refine HASK.out.mono ?_
      rintro e w6 ⟨⟨k, rfl, hk⟩, hr, hbk⟩
      have HR6 := Lib.hid hr
      have hbc6 := hbk _ _ _ (Nat.le_refl _) HBC.out
      have HB6 := Lib.hid hbc6
      have HKK := Lib.hid hk
      clear hr hbk hcc HASK hk hbc6
      go_upto_region 15 with fail
      refine code_gen (fun W7 => Blk W7 w6.heap.size 30 #[.string ⟨#[]⟩, .int .i64 0, .string ⟨#[]⟩, .int .i64 0] ∧ Blk W7 (w6.heap.size + 1) 39 #[.int .i64 0, .int .i64 0, .int .i64 0] ∧ Off [] w6 W7) ⟨(Blk.new w6 _ _).alloc _, Blk.new1 w6 _ _ _, ((Off.refl _ _).alloc _).alloc _⟩ ?_
      rintro W7 ⟨hbn, hbs, ho7⟩
      have HR7 := Lib.hid (HR6.out.off ho7)
      have hbc7 := HB6.out.off ho7 (by simp)
      have hcn := hbn.cell
      have hcs := hbs.cell
      have hcc := hbc7.cell
      clear ho7 hbn hbs hbc7
      have hen := eqNode0
      have hes := eqStamp0
      have hgn : Tryz.prog.eqGuardType Tryz.prog.depth 30 = false := by kernel_rfl
      have hgs : Tryz.prog.eqGuardType Tryz.prog.depth 39 = false := by kernel_rfl
      by_cases h0 : 0 ≤ x.what
      · by_cases h9 : x.what ≤ 9
        · have hk75 := HKK.out h0 h9
          subst hk75
          go_wp2_with fail
          refine (run_steps HR7.out).mono ?_
          rintro e w8 ⟨he, hr⟩
          rw [HOD.out.2.1] at he
          have he : e = .returned (.int .i64 1) := he
          subst he
          have HR8 := Lib.hid hr
          clear hr
          go_wp2_with fail
          refine (run_on HR8.out).mono ?_
          rintro e w9 ⟨he, hr⟩
          rw [HOD.out.1] at he
          have he : e = .returned (.bool false) := he
          subst he
          have HR9 := Lib.hid hr
          clear hr
          go_wp2_with fail
          exact ⟨⟨i + 1, by congr 1, by omega, by omega, Lib.hid (HR9.out.le (by omega))⟩, by simp only [intOf]; omega⟩
        · have h9n : ¬ x.what ≤ 9 := h9
          go_wp2_with fail
          refine (run_steps HR7.out).mono ?_
          rintro e w8 ⟨he, hr⟩
          rw [HOD.out.2.1] at he
          have he : e = .returned (.int .i64 1) := he
          subst he
          have HR8 := Lib.hid hr
          clear hr
          go_wp2_with fail
          refine (run_on HR8.out).mono ?_
          rintro e w9 ⟨he, hr⟩
          rw [HOD.out.1] at he
          have he : e = .returned (.bool false) := he
          subst he
          have HR9 := Lib.hid hr
          clear hr
          go_wp2_with fail
          exact ⟨⟨i + 1, by congr 1, by omega, by omega, Lib.hid (HR9.out.le (by omega))⟩, by simp only [intOf]; omega⟩
      · have h0n : ¬ 0 ≤ x.what := h0
        go_wp2_with fail
        refine (run_steps HR7.out).mono ?_
        rintro e w8 ⟨he, hr⟩
        rw [HOD.out.2.1] at he
        have he : e = .returned (.int .i64 1) := he
        subst he
        have HR8 := Lib.hid hr
        clear hr
        go_wp2_with fail
        refine (run_on HR8.out).mono ?_
        rintro e w9 ⟨he, hr⟩
        rw [HOD.out.1] at he
        have he : e = .returned (.bool false) := he
        subst he
        have HR9 := Lib.hid hr
        clear hr
        go_wp2_with fail
        exact ⟨⟨i + 1, by congr 1, by omega, by omega, Lib.hid (HR9.out.le (by omega))⟩, by simp only [intOf]; omega⟩
    · obtain rfl : i = m := by omega
      go_wp2_with fail
      refine (run_boot HRW.out none [] 0 0 (FRow.nil _ _) rfl (by decide) (fun _ => rfl)).mono ?_
      rintro e wa ⟨rfl, hr⟩
      have HRA := Lib.hid hr
      clear hr
      go_wp2_with fail
      refine (run_on HRA.out).mono ?_
      rintro e wb ⟨he, hr⟩
      rw [HOB.out.1] at he
      have he : e = .returned (.bool true) := he
      subst he
      have HRB := Lib.hid hr
      clear hr HRA
      go_wp2_with fail
      refine (run_steps HRB.out).mono ?_
      rintro e wc ⟨he, hr⟩
      rw [HOB.out.2.1] at he
      have he : e = .returned (.int .i64 0) := he
      subst he
      have HRC2 := Lib.hid hr
      clear hr HRB
      go_wp2_with fail
      refine (run_trace HRC2.out (by omega)).mono ?_
      rintro e wd ⟨pa, pc, he, hr, ho⟩
      rw [HOB.out.2.1] at he
      have he : e = .returned (.slice pa 0 pc) := he
      subst he
      have HRD := Lib.hid hr
      clear hr HRC2 ho
      go_wp2_with fail
      refine (run_tree HRD.out (by omega)).mono ?_
      rintro e wf ⟨v, rfl, hrow, ho, hr⟩
      rw [HOB.out.2.2.1] at hrow
      obtain ⟨qa, qc, hv, hqr, -⟩ := own_row hrow
      rw [HN.out] at hv
      subst hv
      have HSM := Lib.hid (rsame_any t t qa fp qc c wf (by have := HLEN.out; omega) (by have := HLEN.out; omega) hqr (HR0.out.off (HO1.out.trans_nil hr.since)))
      rw [decide_eq_true rfl, HN.out] at HSM
      have HRF := Lib.hid hr
      clear hr hrow hqr ho HRD
      go_wp2_with fail
      refine HSM.out.mono ?_
      rintro e wg ⟨rfl, hog⟩
      have HRG := Lib.hid (HRF.out.off hog)
      clear hog HRF HSM
      have HFL := Lib.hid (run_flush HRG.out (by omega))
      rw [HOB.out.2.2.2] at HFL
      go_wp2_with fail
      refine HFL.out.mono ?_
      rintro e wh ⟨rfl, hr⟩
      have HOZ := Lib.hid (HO1.out.trans_nil hr.since)
      clear hr HFL HRG
      go_wp2_with fail
      go_ret
      exact ⟨rfl, HOZ.out⟩
end Go.Proofs.YtgcfkljooabjjaaGreatDoor

/- hawserlaw07.DiskReads: the walk. Conditions: the tables of unicode/utf8 are laid. -/
namespace Go.Proofs.YtgcfkljooabjjaaGreatDoor
open Go.RowKit Go.Op Go.Maps

theorem namesOn_len (D : PDisk) (p : ByteArray) : (D.namesOn p).1.length ≤ 1001 := by
  unfold PDisk.namesOn
  dsimp only
  generalize (if p = ⟨#[]⟩ then (0 : Int) else firstE [PDisk.no p, D.gone p]) = e
  split
  · simp
  · split
    · show (namesR D.tree (str p)).length ≤ 1001
      unfold namesR
      split
      · rename_i h
        simp only [Bool.and_eq_true] at h
        have h1 := okTree_len h.1
        have h2 := List.length_filter_le (fun n : Node => decide (parent n.p = str p)) D.tree
        unfold namesOf
        rw [List.length_map]
        omega
      · simp
    · simp
section
variable {w0 w : World} {p n : Nat} {D : PDisk} {k : List Nat}
theorem calm_get (h : RunP w0 w p D n k) (hc : Calm D) (hn : n ≤ 1000000) (path : ByteArray) (hs : path.size ≤ 9223372036854775807) (er : Int) (nd : Node) (s1 s2 s3 : Int) (hr : D.get_ path = (er, nd, s1, s2, s3)) :
    Calls Tryz.prog 20 #[.pointer (some ⟨p, 0, none⟩), .string path] w fun e w' => e = .returned (.tuple #[.agg #[.string nd.path, .int .i64 nd.kind, .string nd.data, .int .i64 nd.mode], .agg #[.int .i64 s1, .int .i64 s2, .int .i64 s3], .int .i64 er]) ∧ RunP w0 w' p (D.tick ⟨#[71, 101, 116]⟩ path ⟨#[]⟩) (n + 1) k ∧ Kept k w w' := by
  have h1 := runP_get h hn path hs
  rw [hc.get, hr] at h1
  exact h1
theorem calm_names (h : RunP w0 w p D n k) (hc : Calm D) (hn : n ≤ 900000) (path : ByteArray) (hs : path.size ≤ 9223372036854775807) (hF : Light D) (L : List ByteArray) (er : Int) (hr : D.namesOn path = (L, er)) :
    Calls Tryz.prog 37 #[.pointer (some ⟨p, 0, none⟩), .string path] w fun e w' => ∃ v wm, e = .returned (.tuple #[v, .int .i64 er]) ∧ w'.ownsRow wm.heap.size 9 1 v L.length (L.map Value.string) ∧ RunP w0 wm p (D.tick ⟨#[78, 97, 109, 101, 115]⟩ path ⟨#[]⟩) (n + 1) k ∧ Off [] wm w' ∧ Kept k w w' := by
  have h1 := runP_names h hn path hs hF
  rw [hc.names, hr] at h1
  exact h1
end
theorem Good.tick {D : PDisk} (h : Good D) (c p q : ByteArray) : Good (D.tick c p q) := h.of (h.tree.of rfl rfl rfl (KS.of_inos rfl)) rfl rfl rfl
theorem RunP.tree_len {w0 w : World} {p n : Nat} {D : PDisk} {k : List Nat} (h : RunP w0 w p D n k) : D.tree.length = D.names.length := by
  obtain ⟨G, h1, _⟩ := h
  rw [h1.ok.tree h1.m.parts.names.1, List.length_map, sortN_len]
theorem Light.tick {D : PDisk} (h : Light D) (c p q : ByteArray) : Light (D.tick c p q) := h.same rfl
theorem eqNodeS (a : ByteArray) (b : Int) (c : ByteArray) (d : Int) (w : World) : (Op.equalIn 10000 30 (.agg #[.string a, .int .i64 b, .string c, .int .i64 d]) (.agg #[.string a, .int .i64 b, .string c, .int .i64 d])).run Tryz.prog w = .ok true w := by
  have := eqNode ⟨a, b, c, d⟩ ⟨a, b, c, d⟩ w
  rw [decide_eq_true rfl] at this
  exact this
theorem eqStampS (a b c : Int) (w : World) : (Op.equalIn 10000 39 (.agg #[.int .i64 a, .int .i64 b, .int .i64 c]) (.agg #[.int .i64 a, .int .i64 b, .int .i64 c])).run Tryz.prog w = .ok true w := by
  have u3 := Tryz.underlying3
  have a3 := Tryz.isAgg3
  have z3 := Tryz.sizeOf3
  have hS : Tryz.prog.underlying 39 = some (.struct (Tryz.prog.fieldsOf 39)) := by kernel_rfl
  have hp : Tryz.prog.stoodInHeld 39 = false := by kernel_rfl
  rw [show (10000 : Nat) = 9999 + 1 from rfl, run_equalIn_agg w 9999 39 _ _ hS hp]
  simp only [Program.fieldsOf, Tryz.underlying39]
  go_simp
set_option maxRecDepth 100000 in
set_option maxHeartbeats 16000000 in
theorem dreads_any (fp : Option Addr) (t : List Node) (n c : Nat) (cp : Option Addr) (cs : List CallP) (m d : Nat) (w : World) (hR : Row w fp t) (hn : t.length = n) (hc : n ≤ c) (hcm : c ≤ maxLen) (hF : Fits t)
    (hC : CRow w cp cs) (hm : cs.length = m) (hmd : m ≤ d) (_hdm : d ≤ maxLen) (hZ : ∀ x ∈ cs, x.path.size ≤ maxLen ∧ x.to_.size ≤ maxLen ∧ x.data.size ≤ maxLen) (hT : Tabs w) :
    Calls Tryz.prog 9 #[.slice fp n c, .slice cp m d] w fun e w' => e = .returned (.bool true) ∧ Off [] w w' := by
  have HT := Lib.hid hT
  have HR0 := Lib.hid hR
  have HC0 := Lib.hid hC
  have HN := Lib.hid hn
  have HM := Lib.hid hm
  have HZ := Lib.hid hZ
  have HFT := Lib.hid hF
  have HAW := Lib.hid (fun (W : World) (ho : Off [] w W) => dawake_any W (hT.off ho))
  unfold maxLen at hcm
  clear hT hR hn hC hm hF hZ
  go_enter Tryz.func9, Tryz.ntmps9
  go_wp2_with fail
  refine (HAW.out _ (Off.refl _ _)).mono ?_
  rintro e w1 ⟨rfl, ho1⟩
  have HO1 := Lib.hid ho1
  clear ho1 HAW
  by_cases hok : okTree t = true
  case neg =>
    have hok : okTree t = false := by simpa using hok
    have HNB := Lib.hid (dnew_bad fp t n c w1 (HR0.out.off HO1.out) HN.out hc (by unfold maxLen; omega) hok HFT.out (HT.out.off HO1.out))
    clear hok
    go_wp2_with fail
    refine HNB.out.mono ?_
    rintro e w2 ⟨rfl, ho2⟩
    go_wp2_with fail
    go_ret
    exact ⟨rfl, HO1.out.trans_nil ho2⟩
  have HGN := Lib.hid (good_new hok)
  have HLN := Lib.hid (light_new HFT.out)
  have HNEW := Lib.hid (run_new fp t n c w1 w1 (Off.refl _ _) (HT.out.off HO1.out) (HR0.out.off HO1.out) HN.out hc hok HFT.out)
  clear hok
  go_wp2_with fail
  refine HNEW.out.mono ?_
  rintro e w2 ⟨gd, rfl, hr⟩
  have HR2 := Lib.hid hr
  clear hr HNEW
  go_wp2_with fail
  go_loopw [33] (fun x wr => ∃ (i : Nat) (D : PDisk), x = .int .i64 i ∧ i ≤ m ∧ i ≤ 60 ∧ Hid (Run w1 wr gd D (6 * i) ∧ Good D ∧ Calm D ∧ Light D)) (fun x _ => m - (intOf x).toNat)
  case atStart => exact ⟨0, _, rfl, by omega, by omega, Lib.hid ⟨HR2.out, HGN.out, ⟨rfl, rfl⟩, HLN.out⟩⟩
  case round =>
    clear HR2 HGN HLN
    obtain ⟨i, D, rfl, hi, hi60, HRW⟩ := hrel
    by_cases hlt : i < m
    · have hil : i < cs.length := by rw [HM.out]; exact hlt
      obtain ⟨a, rfl, hca, hab⟩ := (HC0.out.off (HO1.out.trans_nil HRW.out.1.since)).get i hil
      have HZX := Lib.hid (HZ.out _ (List.getElem_mem hil))
      generalize cs[i] = x at hca HZX
      have c0 := hca.what
      have c1 := hca.path
      have c2 := hca.to_
      have c3 := hca.data
      have c4 := hca.mode
      have hilt : (i : Int) < m := by omega
      have habk : (a.add (i * 5)).block < wr.heap.size := by rw [add_block]; exact hab
      clear hca hab hil
      go_upto_region 9 with fail
      refine code_gen (fun W => Blk W wr.heap.size 77 #[.int .i64 x.what, .string x.path, .string x.to_, .string x.data, .int .i64 x.mode] ∧ Off [] wr W) ⟨Blk.new _ _ _, (Off.refl _ _).alloc _⟩ ?_
      rintro W ⟨hbc, hof⟩
      clear c0 c1 c2 c3 c4 habk
      have HBC := Lib.hid hbc
      have hcc := hbc.cell
      have HRP := Lib.hid (HRW.out.1.keep (k := [wr.heap.size]) hof (fun b hb => by simp at hb; subst hb; exact ⟨Nat.le_refl _, hbc.lt⟩))
      have HS := Lib.hid (And.intro HRW.out.2.1 (And.intro HRW.out.2.2.1 HRW.out.2.2.2))
      have HOX := Lib.hid (HRW.out.1.since.trans_nil hof)
      clear hbc hof HRW
      by_cases h60 : i = 60
      · have hq : ((i : Int) == 60) = true := by rw [h60]; rfl
        clear h60
        go_wp2_with fail
        go_ret
        exact ⟨rfl, HO1.out.trans_nil HOX.out⟩
      have hq : ((i : Int) == 60) = false := beq_eq_false_iff_ne.2 (by omega)
      have HASK := Lib.hid (runP_ask HRP.out (by omega) HS.out.2.2 x HZX.out.1 HZX.out.2.1 (HS.out.1.free HRP.out.ok x.path x.to_))
      go_upto_region 11 with fail
      refine HASK.out.mono ?_
      rintro e w3 ⟨⟨_, rfl⟩, hr, hk⟩
      have HB3 := Lib.hid (hk.blk HBC.out (by simp))
      have HR3 := Lib.hid hr
      have HS3 := Lib.hid (And.intro (HS.out.1.ask HRP.out.ok x) (And.intro (HS.out.2.1.ask x) (HS.out.2.2.ask x HZX.out.2.2 HZX.out.2.1)))
      clear hr hk hcc HASK HRP HBC
      obtain ⟨E, hE⟩ : ∃ E, askD D x = E := ⟨_, rfl⟩
      rw [hE] at HR3 HS3
      clear hE HS
      have HTR := Lib.hid (runP_tree HR3.out (by omega))
      go_wp2_with fail
      refine HTR.out.mono ?_
      rintro e w4 ⟨v, rfl, hrow, ho, hr⟩
      have HROW := Lib.hid hrow
      obtain ⟨qa, qc, hv, -, -⟩ := own_row hrow
      subst hv
      have HB4 := Lib.hid (HB3.out.off ho (by simp))
      have hcc := HB4.out.cell
      have HR4 := Lib.hid hr
      clear hr ho hrow HTR HR3 HB3
      obtain ⟨er, nd, s1, s2, s3, hg⟩ : ∃ er nd s1 s2 s3, E.get_ x.path = (er, nd, s1, s2, s3) := ⟨_, _, _, _, _, rfl⟩
      obtain ⟨L, el, hl⟩ : ∃ L el, E.namesOn x.path = (L, el) := ⟨_, _, rfl⟩
      have HLL := Lib.hid (show L.length ≤ 1001 by have := namesOn_len E x.path; rw [hl] at this; exact this)
      have HG1 := Lib.hid (calm_get HR4.out HS3.out.2.1 (by omega) x.path HZX.out.1 er nd s1 s2 s3 hg)
      have HGL := Lib.hid (And.intro hg hl)
      clear hg hl
      go_wp2_with fail
      refine HG1.out.mono ?_
      rintro e w5 ⟨rfl, hr, hk⟩
      have HB5 := Lib.hid (hk.blk HB4.out (by simp))
      have HROW5 := Lib.hid (hk.row HROW.out (by intro b hb; simp [hb]))
      have HR5 := Lib.hid hr
      clear hr hk hcc HG1 HR4 HB4 HROW
      go_upto_region 13 with fail
      refine code_gen (fun W6 => Blk W6 w5.heap.size 30 #[.string nd.path, .int .i64 nd.kind, .string nd.data, .int .i64 nd.mode] ∧ Blk W6 (w5.heap.size + 1) 39 #[.int .i64 s1, .int .i64 s2, .int .i64 s3] ∧ Off [] w5 W6) ⟨(Blk.new w5 _ _).alloc _, Blk.new1 w5 _ _ _, ((Off.refl _ _).alloc _).alloc _⟩ ?_
      rintro W6 ⟨hbn, hbs, ho6⟩
      have HR6 := Lib.hid (HR5.out.more (k' := [w5.heap.size, w5.heap.size + 1]) ho6 (fun b hb => by
        simp at hb
        rcases hb with rfl | rfl
        · exact ⟨Nat.le_refl _, hbn.lt⟩
        · exact ⟨Nat.le_succ _, hbs.lt⟩))
      have HB6 := Lib.hid (HB5.out.off ho6 (by simp))
      have HN6 := Lib.hid hbn
      have HS6 := Lib.hid hbs
      have HROW6 := Lib.hid (own_offk HROW5.out ho6 (by simp))
      have hcc := HB6.out.cell
      have HG2 := Lib.hid (calm_names HR6.out (HS3.out.2.1.tick _ _ _) (by omega) x.path HZX.out.1 (HS3.out.2.2.tick _ _ _) L el HGL.out.2)
      obtain ⟨ga, hga⟩ : ∃ ga, w5.heap.size = ga := ⟨_, rfl⟩
      rw [hga] at HN6 HG2 HS6
      clear hbn hbs ho6 HR5 HB5 HROW5 HR6
      go_wp2_with fail
      refine HG2.out.mono ?_
      rintro e w7 ⟨v2, wm, rfl, hl2, hr, ho, hk⟩
      have HB7 := Lib.hid (hk.blk HB6.out (by simp))
      have HN7 := Lib.hid (hk.blk HN6.out (by simp))
      have HS7 := Lib.hid (hk.blk HS6.out (by simp))
      have HROW7 := Lib.hid (hk.row HROW6.out (by intro b hb; simp [hb]))
      have HL7 := Lib.hid hl2
      have HR7 := Lib.hid (hr.more ho (own_made hl2))
      obtain ⟨pl, pc, hv, -⟩ := own_strs hl2
      subst hv
      have hcc := HB7.out.cell
      have HG3 := Lib.hid (calm_get HR7.out ((HS3.out.2.1.tick _ _ _).tick _ _ _) (by omega) x.path HZX.out.1 er nd s1 s2 s3 HGL.out.1)
      clear hl2 hr ho hk HB6 HN6 HS6 HROW6 HG2
      go_wp2_with fail
      refine HG3.out.mono ?_
      rintro e w8 ⟨rfl, hr, hk⟩
      have HB8 := Lib.hid (hk.blk HB7.out (by simp))
      have HN8 := Lib.hid (hk.blk HN7.out (by simp))
      have HS8 := Lib.hid (hk.blk HS7.out (by simp))
      have HROW8 := Lib.hid (hk.row HROW7.out (by intro b hb; simp [hb]))
      have HL8 := Lib.hid (hk.row HL7.out (by intro b hb; simp [hb]))
      have HR8 := Lib.hid hr
      clear hr hk hcc HG3 HR7 HB7 HN7 HS7 HROW7 HL7
      go_upto_region 15 with fail
      refine code_gen (fun W9 => Blk W9 w8.heap.size 30 #[.string nd.path, .int .i64 nd.kind, .string nd.data, .int .i64 nd.mode] ∧ Blk W9 (w8.heap.size + 1) 39 #[.int .i64 s1, .int .i64 s2, .int .i64 s3] ∧ Off [] w8 W9) ⟨(Blk.new w8 _ _).alloc _, Blk.new1 w8 _ _ _, ((Off.refl _ _).alloc _).alloc _⟩ ?_
      rintro W9 ⟨hbn, hbs, ho6⟩
      have HR9 := Lib.hid (HR8.out.more (k' := [w8.heap.size, w8.heap.size + 1]) ho6 (fun b hb => by
        simp at hb
        rcases hb with rfl | rfl
        · exact ⟨Nat.le_refl _, hbn.lt⟩
        · exact ⟨Nat.le_succ _, hbs.lt⟩))
      have HB9 := Lib.hid (HB8.out.off ho6 (by simp))
      have HN9 := Lib.hid (HN8.out.off ho6 (by simp))
      have HS9 := Lib.hid (HS8.out.off ho6 (by simp))
      have HM9 := Lib.hid hbn
      have HT9 := Lib.hid hbs
      have HROW9 := Lib.hid (own_offk HROW8.out ho6 (by simp))
      have HL9 := Lib.hid (own_offk HL8.out ho6 (by simp))
      have hcc := HB9.out.cell
      have HG4 := Lib.hid (calm_names HR9.out (((HS3.out.2.1.tick _ _ _).tick _ _ _).tick _ _ _) (by omega) x.path HZX.out.1 (((HS3.out.2.2.tick _ _ _).tick _ _ _).tick _ _ _) L el HGL.out.2)
      obtain ⟨gb, hgb⟩ : ∃ gb, w8.heap.size = gb := ⟨_, rfl⟩
      rw [hgb] at HM9 HT9 HG4
      clear hbn hbs ho6 HR8 HB8 HN8 HS8 HROW8 HL8 HR9
      go_wp2_with fail
      refine HG4.out.mono ?_
      rintro e w10 ⟨v3, wm2, rfl, hl3, hr, ho, hk⟩
      have hN := (hk.blk HN9.out (by simp)).cell
      have hS := (hk.blk HS9.out (by simp)).cell
      have hM := (hk.blk HM9.out (by simp)).cell
      have hTT := (hk.blk HT9.out (by simp)).cell
      have HROW10 := Lib.hid (hk.row HROW9.out (by intro b hb; simp [hb]))
      obtain ⟨pl', pc', hv, hst1⟩ := own_strs (hk.row HL9.out (by intro b hb; simp [hb]))
      obtain ⟨rfl, rfl⟩ : pl = pl' ∧ pc = pc' := by simpa using hv
      have HR10 := Lib.hid (hr.more ho (own_made hl3))
      obtain ⟨pm, pd, hv3, hst2⟩ := own_strs hl3
      subst hv3
      have HTX := Lib.hid (texts_any L L pl pm pc pd w10 (by have := HLL.out; omega) (by have := HLL.out; omega) hst1 hst2)
      rw [decide_eq_true rfl] at HTX
      clear hl3 hr ho hk hv hst1 hst2 HB9 HN9 HS9 HM9 HT9 HROW9 HL9 HG4 hcc
      have hen := eqNodeS nd.path nd.kind nd.data nd.mode
      have hes := eqStampS s1 s2 s3
      have hgn : Tryz.prog.eqGuardType Tryz.prog.depth 30 = false := by kernel_rfl
      have hgs : Tryz.prog.eqGuardType Tryz.prog.depth 39 = false := by kernel_rfl
      go_wp2_with fail
      refine HTX.out.mono ?_
      rintro e w11 ⟨rfl, ho⟩
      have HR11 := Lib.hid (HR10.out.off ho)
      have HROW11 := Lib.hid (own_offk HROW10.out ho (by simp))
      have HTL := Lib.hid (show E.tree.length ≤ 10000 by
        have h1 := HR11.out.tree_len
        have h2 := HR11.out.ok.nlen
        rw [tick_tree, tick_tree, tick_tree, tick_tree] at h1
        omega)
      clear ho HTX HR10 HROW10 hN hS hM hTT
      have HTR := Lib.hid (runP_tree HR11.out (by omega))
      rw [tick_tree, tick_tree, tick_tree, tick_tree] at HTR
      go_wp2_with fail
      refine HTR.out.mono ?_
      rintro e w12 ⟨v5, rfl, hrow, ho, hr⟩
      obtain ⟨ra, rc, hv, hrr, -⟩ := own_row hrow
      subst hv
      obtain ⟨qa', qc', hv, hqr, -, -, -⟩ := own_row (own_offk HROW11.out ho (by simp))
      obtain ⟨rfl, rfl⟩ : qa = qa' ∧ qc = qc' := by simpa using hv
      have HSM := Lib.hid (rsame_any E.tree E.tree qa ra qc rc w12 (by have := HTL.out; omega) (by have := HTL.out; omega) hqr hrr)
      rw [decide_eq_true rfl] at HSM
      have HR12 := Lib.hid hr
      clear hrow hrr hqr ho hr HTR hv HR11
      go_wp2_with fail
      refine HSM.out.mono ?_
      rintro e w13 ⟨rfl, hog⟩
      have HR13 := Lib.hid (HR12.out.off hog).run
      clear hog HSM HR12
      go_wp2_with fail
      exact ⟨⟨i + 1, _, by congr 1, by omega, by omega, Lib.hid ⟨HR13.out.le (by omega), (((HS3.out.1.tick _ _ _).tick _ _ _).tick _ _ _).tick _ _ _, (((HS3.out.2.1.tick _ _ _).tick _ _ _).tick _ _ _).tick _ _ _, (((HS3.out.2.2.tick _ _ _).tick _ _ _).tick _ _ _).tick _ _ _⟩⟩, by simp only [intOf]; omega⟩
    · obtain rfl : i = m := by omega
      go_wp2_with fail
      go_ret
      exact ⟨rfl, HO1.out.trans_nil HRW.out.1.since⟩
end Go.Proofs.YtgcfkljooabjjaaGreatDoor

/- hawserlaw07.DiskStamps: the walk. Conditions: the tables of unicode/utf8 are laid. -/
namespace Go.Proofs.YtgcfkljooabjjaaGreatDoor
open Go.RowKit Go.Op Go.Maps

def seenCells (x : SeenP) : List Value := [.string x.n.path, .int .i64 x.n.kind, .string x.n.data, .int .i64 x.n.mode, .int .i64 x.ino, .int .i64 x.size, .int .i64 x.time]
def cellsS (S : List SeenP) : List Value := S.flatMap seenCells
theorem seen_at : ∀ (S : List SeenP) (j : Nat) (s : SeenP), S[j]? = some s → ∀ (i : Nat) (u : Value), (seenCells s)[i]? = some u → (cellsS S)[j * 7 + i]? = some u
  | [], j, s, h, _, _, _ => by simp at h
  | x :: S, 0, s, h, i, u, hu => by
    simp at h
    subst h
    unfold cellsS
    rw [List.flatMap_cons, Nat.zero_mul, Nat.zero_add, List.getElem?_append_left (List.getElem?_eq_some_iff.1 hu).1]
    exact hu
  | x :: S, j + 1, s, h, i, u, hu => by
    unfold cellsS
    rw [List.flatMap_cons, List.getElem?_append_right (by simp [seenCells]; omega)]
    rw [show (j + 1) * 7 + i - (seenCells x).length = j * 7 + i by simp [seenCells]; omega]
    exact seen_at S j s (by simpa using h) i u hu
theorem seen_row {w : World} {base : Nat} {v : Value} {S : List SeenP} {sn : Nat} (h : w.ownsRow base 88 7 v sn (cellsS S)) {j : Nat} {s : SeenP} (hj : S[j]? = some s) (hn : S.length = sn) :
    ∃ g c, v = .slice (some ⟨g, 0, none⟩) sn c ∧ g < w.heap.size ∧ ∀ (i : Nat) (u : Value), (seenCells s)[i]? = some u → w.cell? ⟨g, j * 7 + i, none⟩ = some u := by
  have hjl := (List.getElem?_eq_some_iff.1 hj).1
  rcases h.2 with ⟨_, h1⟩ | ⟨g, cap, cur, rfl, hb, hh, hc, _, hsz, ht⟩
  · omega
  · have hB : Blk w g 88 cur := hh
    refine ⟨g, cap, rfl, hB.lt, fun i u hu => ?_⟩
    rw [hB.cell]
    have h3 := seen_at S j s hj i u hu
    rw [← ht, List.getElem?_take] at h3
    split at h3
    · simpa using h3
    · cases h3
theorem infoSeen : (Tryz.prog.info? 88).map (fun i => (i.zero, i.size, i.bytes)) = some (some (.agg #[.string ⟨#[]⟩, .int .i64 0, .string ⟨#[]⟩, .int .i64 0, .int .i64 0, .int .i64 0, .int .i64 0]), 7, 72) := by kernel_rfl
theorem seven_at {w : World} {g : Nat} {t : TypeId} {a b c d e f h : Value} (hB : Blk w g t #[a, b, c, d, e, f, h]) : ∀ j u, [a, b, c, d, e, f, h][j]? = some u → w.cell? ((⟨g, 0, none⟩ : Addr).add j) = some u := by
  intro j u hj
  rw [addr_add, hB.cell]
  simpa using hj
theorem eqStamp (a b c x y z : Int) (w : World) : (Op.equalIn 10000 39 (.agg #[.int .i64 a, .int .i64 b, .int .i64 c]) (.agg #[.int .i64 x, .int .i64 y, .int .i64 z])).run Tryz.prog w = .ok (decide (a = x ∧ b = y ∧ c = z)) w := by
  have u3 := Tryz.underlying3
  have a3 := Tryz.isAgg3
  have z3 := Tryz.sizeOf3
  have hS : Tryz.prog.underlying 39 = some (.struct (Tryz.prog.fieldsOf 39)) := by kernel_rfl
  have hp : Tryz.prog.stoodInHeld 39 = false := by kernel_rfl
  rw [show (10000 : Nat) = 9999 + 1 from rfl, run_equalIn_agg w 9999 39 _ _ hS hp]
  simp only [Program.fieldsOf, Tryz.underlying39]
  go_simp
  by_cases h1 : a = x
  · subst h1
    by_cases h2 : b = y
    · subst h2
      by_cases h3 : c = z
      · subst h3; simp
      · simp [h3]
    · simp [h2]
  · simp [h1]
/-- the list of what was seen is written -/
theorem RunE.wrote {w0 w w' : World} {p n : Nat} {D : PDisk} {k l k' : List Nat} (h : RunE w0 w p D n k) (hT : Tabs w0) (ho : Off l w w') (hl : ∀ b ∈ l, b ∈ k ∧ w0.heap.size ≤ b) (hk : ∀ b ∈ k', b ∈ k ∨ (w.heap.size ≤ b ∧ b < w'.heap.size)) : RunE w0 w' p D n k' := by
  obtain ⟨G, h1, h2, h3, h4, h5⟩ := h
  have ho2 : Off [] w0 w' := h2.trans ho (fun x hx hm => by have := (hl x hm).2; omega)
  refine ⟨G, ⟨h1.m.off ho (fun hm => (h5 p (hl p hm).1).2 (List.mem_cons_self ..)) (fun b hb hm => (h5 b (hl b hm).1).2 (List.mem_cons_of_mem _ hb)), h1.sb, h1.ok, TabsX.of hT ho2 h3 h4⟩, ho2, h3, h4, fun b hb => ?_⟩
  rcases hk b hb with h6 | ⟨h6, h7⟩
  · exact ⟨Nat.lt_of_lt_of_le (h5 b h6).1 ho.size, (h5 b h6).2⟩
  · refine ⟨h7, fun hm => ?_⟩
    rcases List.mem_cons.1 hm with rfl | hm
    · have := h1.m.blk.lt; omega
    · have := h1.m.parts.lt hm; omega
/-- what holds at each round -/
structure StI (D : PDisk) (n : Nat) (S : List SeenP) : Prop where
  fine : Fine D n
  ed : EdF D
  age : AgeOk D
  seen : ∀ s ∈ S, SeenIn D s
theorem StI.boot {D : PDisk} {n : Nat} {S : List SeenP} (h : StI D n S) : StI (D.boot []) n S := ⟨fine_boot h.fine, h.ed.of (.inr rfl), fun m hm => h.age m hm, fun s hs => (h.seen s hs).next ((Nx.refl D).same rfl (Nat.le_refl _))⟩
theorem StI.mono {D : PDisk} {n m : Nat} {S : List SeenP} (h : StI D n S) (hm : n ≤ m) : StI D m S := ⟨h.fine.mono hm, h.ed, h.age, h.seen⟩
theorem StI.ask {D : PDisk} {n m : Nat} {S : List SeenP} (h : StI D n S) (c : CallP) (hz1 : c.data.size ≤ maxLen) (hz2 : c.to_.size ≤ maxLen) (hk : Ok (askE D c).2 m) : StI (askE D c).2 m S :=
  ⟨fine_ask h.fine h.ed c hz1 hz2 hk, edF_ask h.ed c, (age_ask h.age c).2, fun s hs => (h.seen s hs).next (age_ask h.age c).1⟩
theorem StI.get {D : PDisk} {n m : Nat} {S : List SeenP} (h : StI D n S) (p : ByteArray) (hk : Ok (D.edited.get p).2 m) : StI (D.edited.get p).2 m S :=
  ⟨(fine_get h.fine h.ed p hk).1, (fine_get h.fine h.ed p hk).2, (age_get h.age p).2.1, fun s hs => (h.seen s hs).next (age_get h.age p).1⟩
set_option maxRecDepth 100000 in
set_option maxHeartbeats 16000000 in
theorem dstamps_any (fp : Option Addr) (t : List Node) (n c : Nat) (ap ep : Option Addr) (fs : List FateP) (es : List EditP) (nf fc ne ec : Nat) (cp : Option Addr) (cs : List CallP) (m d : Nat) (w : World) (hR : Row w fp t) (hn : t.length = n) (hc : n ≤ c) (hcm : c ≤ maxLen) (hF : Fits t)
    (hFR : FRow w ap fs) (hnf : fs.length = nf) (hnb : nf ≤ 4398046511103) (hpa : ap = none → fs = []) (hER : ERow w ep es) (hne : es.length = ne) (hnm : ne ≤ maxLen) (hvl : ∀ e ∈ es, e.value.length ≤ 2932031007402 ∧ Fits e.value)
    (hC : CRow w cp cs) (hm : cs.length = m) (hmd : m ≤ d) (_hdm : d ≤ maxLen) (hZ : ∀ x ∈ cs, x.path.size ≤ maxLen ∧ x.to_.size ≤ maxLen ∧ x.data.size ≤ maxLen) (hT : Tabs w) :
    Calls Tryz.prog 10 #[.slice fp n c, .agg #[.slice ap nf fc, .slice ep ne ec], .slice cp m d] w fun e w' => e = .returned (.bool true) ∧ Off [] w w' := by
  obtain ⟨i0, hi0, hz0, hz1, hz2⟩ := info_parts infoSeen
  have HT := Lib.hid hT
  have HR0 := Lib.hid hR
  have HC0 := Lib.hid hC
  have HN := Lib.hid hn
  have HM := Lib.hid hm
  have HZ := Lib.hid hZ
  have HFT := Lib.hid hF
  have HWE := Lib.hid (And.intro hFR (And.intro hnf (And.intro hpa (And.intro hER (And.intro hne hvl)))))
  have HAW := Lib.hid (fun (W : World) (ho : Off [] w W) => dawake_any W (hT.off ho))
  unfold maxLen at hcm hnm
  clear hT hR hn hC hm hF hZ hFR hnf hpa hER hne hvl
  go_enter Tryz.func10, Tryz.ntmps10
  go_upto_region 1 with fail
  refine code_gen (fun W => Blk W w.heap.size 85 #[.slice ap nf fc, .slice ep ne ec] ∧ Off [] w W) ⟨Blk.new w _ _, (Off.refl _ _).alloc _⟩ ?_
  rintro W ⟨hbf, hof⟩
  have HBF := Lib.hid hbf
  have HOF := Lib.hid hof
  clear hbf hof
  go_wp2_with fail
  refine (HAW.out W HOF.out).mono ?_
  rintro e w1 ⟨rfl, ho1⟩
  have HB1 := Lib.hid (HBF.out.off ho1 (by simp))
  have HO1 := Lib.hid (HOF.out.trans_nil ho1)
  have HT1 := Lib.hid (HT.out.off HO1.out)
  clear ho1 HAW HBF HOF
  by_cases hok : okTree t = true
  case neg =>
    have hok : okTree t = false := by simpa using hok
    have HNB := Lib.hid (dnew_bad fp t n c w1 (HR0.out.off HO1.out) HN.out hc (by unfold maxLen; omega) hok HFT.out (HT.out.off HO1.out))
    clear hok
    go_wp2_with fail
    refine HNB.out.mono ?_
    rintro e w2 ⟨rfl, ho2⟩
    go_wp2_with fail
    go_ret
    exact ⟨rfl, HO1.out.trans_nil ho2⟩
  have HGN := Lib.hid (And.intro (good_new hok) (light_new HFT.out))
  have HNEW := Lib.hid (run_new fp t n c w1 w1 (Off.refl _ _) (HT.out.off HO1.out) (HR0.out.off HO1.out) HN.out hc hok HFT.out)
  clear hok
  go_wp2_with fail
  refine HNEW.out.mono ?_
  rintro e w2 ⟨gd, rfl, hr⟩
  have HR2 := Lib.hid hr.e
  have hbf := HB1.out.off hr.since (by simp)
  have hcf := hbf.cell
  have HO2 := Lib.hid hr.since
  clear hr HNEW hbf
  by_cases h4 : 4 < ne
  case pos =>
    have h4i : (4 : Int) < ne := by omega
    clear h4
    go_wp2_with fail
    go_ret
    exact ⟨rfl, HO1.out.trans_nil HO2.out⟩
  have h4i : ¬ (4 : Int) < ne := by omega
  have HNE4 := Lib.hid (show ne ≤ 4 by omega)
  clear h4
  have HBT := Lib.hid (runE_boot (c := fc) (ce := ec) HR2.out ap ep fs es nf ne (HWE.out.1.off (HO1.out.trans_nil HO2.out)) HWE.out.2.1 hnb HWE.out.2.2.1 (HWE.out.2.2.2.1.off HO1.out) HWE.out.2.2.2.2.1 (by omega) HWE.out.2.2.2.2.2)
  go_wp2_with fail
  refine HBT.out.mono ?_
  rintro e w3 ⟨rfl, ev, hr, -⟩
  have HR3 := Lib.hid hr
  obtain ⟨D0, hD0⟩ : ∃ D0, (newD t).bootE fs es ev = D0 := ⟨_, rfl⟩
  have HS0 := Lib.hid (show StI D0 0 [] by
    subst hD0
    exact ⟨⟨hr.ok, HGN.out.1.of (HGN.out.1.tree.of rfl rfl rfl (KS.of_inos rfl)) rfl rfl rfl, HGN.out.2.same rfl⟩, ⟨by show es.length ≤ 4; rw [HWE.out.2.2.2.2.1]; exact HNE4.out, fun e he => (HWE.out.2.2.2.2.2 e he).2⟩, fun m hm => age_new t m hm, fun s hs => by cases hs⟩)
  rw [hD0] at HR3
  clear hr hcf HBT HR2 hD0 h4i
  go_wp2_with fail
  go_loopw [46, 9] (fun x v wr => ∃ (i : Nat) (D : PDisk) (S : List SeenP), x = .int .i64 i ∧ i ≤ m ∧ i ≤ 40 ∧ Hid (RunE w1 wr gd D (8100 * i) v.ownBlock.toList ∧ StI D (8100 * i) S ∧ wr.ownsRow w1.heap.size 88 7 v S.length (cellsS S) ∧ S.length ≤ i)) (fun x _ _ => m - (intOf x).toNat)
  case atStart => exact ⟨0, D0, [], rfl, by omega, by omega, Lib.hid ⟨HR3.out.drop (fun b hb => by simp [Value.ownBlock] at hb), HS0.out, ⟨rfl, .inl ⟨rfl, rfl⟩⟩, Nat.le_refl _⟩⟩
  case round =>
    clear HR3 HS0
    obtain ⟨i, D, S, rfl, hi, hi40, HRW⟩ := hrel
    by_cases hlt : i < m
    · have hil : i < cs.length := by rw [HM.out]; exact hlt
      obtain ⟨a, rfl, hca, hab⟩ := (HC0.out.off (HO1.out.trans_nil HRW.out.1.since)).get i hil
      have HZX := Lib.hid (HZ.out _ (List.getElem_mem hil))
      generalize cs[i] = x at hca HZX
      have c0 := hca.what
      have c1 := hca.path
      have c2 := hca.to_
      have c3 := hca.data
      have c4 := hca.mode
      have hilt : (i : Int) < m := by omega
      have habk : (a.add (i * 5)).block < wr.heap.size := by rw [add_block]; exact hab
      obtain ⟨sn, hsn⟩ : ∃ sn, S.length = sn := ⟨_, rfl⟩
      have HSN := Lib.hid hsn
      obtain ⟨pv, cv, hv⟩ := row_len HRW.out.2.2.1
      rw [hsn] at hv HRW
      subst hv
      clear hca hab hil hsn
      go_upto_region 11 with fail
      refine code_gen (fun W => Blk W wr.heap.size 77 #[.int .i64 x.what, .string x.path, .string x.to_, .string x.data, .int .i64 x.mode] ∧ Off [] wr W) ⟨Blk.new _ _ _, (Off.refl _ _).alloc _⟩ ?_
      rintro W ⟨hbc, hof⟩
      clear c0 c1 c2 c3 c4 habk
      have HBC := Lib.hid hbc
      have hcc := hbc.cell
      have HRP := Lib.hid (HRW.out.1.more (k' := [wr.heap.size]) hof (fun b hb => by simp at hb; subst hb; exact ⟨Nat.le_refl _, hbc.lt⟩))
      have HS := Lib.hid HRW.out.2.1
      have HROW := Lib.hid (own_offk HRW.out.2.2.1 hof (by simp))
      have hsni : sn ≤ i := HRW.out.2.2.2
      have HOX := Lib.hid (HRW.out.1.since.trans_nil hof)
      clear hbc hof HRW
      by_cases h60 : i = 40
      · have hq : ((i : Int) == 40) = true := by rw [h60]; rfl
        clear h60
        go_wp2_with fail
        go_ret
        exact ⟨rfl, HO1.out.trans_nil HOX.out⟩
      have hq : ((i : Int) == 40) = false := beq_eq_false_iff_ne.2 (by omega)
      have HASK := Lib.hid (runE_ask HRP.out HS.out.fine HS.out.ed (by omega) x HZX.out.1 HZX.out.2.1)
      go_upto_region 13 with fail
      refine HASK.out.mono ?_
      rintro e w4 ⟨⟨va, rfl, -⟩, hr, hk⟩
      have HB4 := Lib.hid (hk.blk HBC.out (by simp))
      have HROW4 := Lib.hid (hk.row HROW.out (by intro b hb; simp [hb]))
      have HR4 := Lib.hid hr
      have HS4 := Lib.hid (HS.out.ask x HZX.out.2.2 HZX.out.2.1 hr.ok)
      have hcc := HB4.out.cell
      clear hr hk HASK HRP HBC HS HROW
      obtain ⟨E, hE⟩ : ∃ E, (askE D x).2 = E := ⟨_, rfl⟩
      rw [hE] at HR4 HS4
      clear hE
      obtain ⟨er, nd, s1, s2, s3, hg⟩ : ∃ er nd s1 s2 s3, (E.edited.get x.path).1 = (er, nd, s1, s2, s3) := ⟨_, _, _, _, _, rfl⟩
      have HG1 := Lib.hid (runE_get HR4.out HS4.out.fine HS4.out.ed (by omega) x.path HZX.out.1)
      have HAG := Lib.hid (age_get HS4.out.age x.path).2.2
      rw [hg] at HG1 HAG
      unfold getVal at HG1
      clear hg
      go_wp2_with fail
      refine HG1.out.mono ?_
      rintro e w5 ⟨rfl, hr, hk⟩
      have HB5 := Lib.hid (hk.blk HB4.out (by simp))
      have HROW5 := Lib.hid (hk.row HROW4.out (by intro b hb; simp [hb]))
      have HR5 := Lib.hid hr
      have HS5 := Lib.hid (HS4.out.get x.path hr.ok)
      clear hr hk hcc HG1 HR4 HB4 HROW4 HS4
      obtain ⟨F, hF⟩ : ∃ F, (E.edited.get x.path).2 = F := ⟨_, rfl⟩
      rw [hF] at HR5 HS5 HAG
      clear hF
      go_upto_region 14 with fail
      refine code_gen (fun W6 => Blk W6 w5.heap.size 30 #[.string nd.path, .int .i64 nd.kind, .string nd.data, .int .i64 nd.mode] ∧ Blk W6 (w5.heap.size + 1) 39 #[.int .i64 s1, .int .i64 s2, .int .i64 s3] ∧ Off [] w5 W6) ⟨(Blk.new w5 _ _).alloc _, Blk.new1 w5 _ _ _, ((Off.refl _ _).alloc _).alloc _⟩ ?_
      rintro W6 ⟨hbn, hbs, ho6⟩
      have HR6 := Lib.hid ((HR5.out.off ho6).drop (k' := (Value.slice pv sn cv).ownBlock.toList) (fun b hb => by simp [hb]))
      have HB6 := Lib.hid (HB5.out.off ho6 (by simp))
      have HROW6 := Lib.hid (own_offk HROW5.out ho6 (by simp))
      have HN6 := Lib.hid hbn
      have HST6 := Lib.hid hbs
      have hcc := HB6.out.cell
      obtain ⟨ga, hga⟩ : ∃ ga, w5.heap.size = ga := ⟨_, rfl⟩
      rw [hga] at HN6 HST6
      clear hbn hbs ho6 HR5 HB5 HROW5
      by_cases he : er = 0
      case neg =>
        have he2 : (er == 0) = false := beq_eq_false_iff_ne.2 he
        clear he
        rw [hga]
        clear hga
        go_wp2_with fail
        refine (runE_on HR6.out).mono ?_
        rintro e w7 ⟨rfl, hr, ho⟩
        have HR7 := Lib.hid hr
        have HROW7 := Lib.hid (own_offk HROW6.out ho (by simp))
        clear hr ho HR6 HROW6
        cases hoff : F.off
        · go_wp2_with fail
          exact ⟨⟨i + 1, F, S, by congr 1, by omega, by omega, Lib.hid ⟨HR7.out.le (by omega), HS5.out.mono (by omega), by rw [HSN.out]; exact HROW7.out, by rw [HSN.out]; omega⟩⟩, by simp only [intOf]; omega⟩
        · go_wp2_with fail
          refine (runE_boot0 HR7.out).mono ?_
          rintro e w8 ⟨rfl, hr, hk⟩
          have HR8 := Lib.hid hr
          have HROW8 := Lib.hid (hk.row HROW7.out (fun b hb => hb))
          clear hr hk HR7 HROW7
          go_wp2_with fail
          exact ⟨⟨i + 1, F.boot [], S, by congr 1, by omega, by omega, Lib.hid ⟨HR8.out.le (by omega), HS5.out.boot.mono (by omega), by rw [HSN.out]; exact HROW8.out, by rw [HSN.out]; omega⟩⟩, by simp only [intOf]; omega⟩
      subst he
      by_cases hp : x.path = ⟨#[]⟩
      · have hpe : x.path.toList.isEmpty = true := by rw [hp, Lib.toList_data]; rfl
        have hpe2 : x.path.toList = [] := by rw [hp, Lib.toList_data]
        clear hp
        rw [hga]
        clear hga
        go_wp2_with fail
        refine (runE_on HR6.out).mono ?_
        rintro e w7 ⟨rfl, hr, ho⟩
        have HR7 := Lib.hid hr
        have HROW7 := Lib.hid (own_offk HROW6.out ho (by simp))
        clear hr ho HR6 HROW6
        cases hoff : F.off
        · go_wp2_with fail
          exact ⟨⟨i + 1, F, S, by congr 1, by omega, by omega, Lib.hid ⟨HR7.out.le (by omega), HS5.out.mono (by omega), by rw [HSN.out]; exact HROW7.out, by rw [HSN.out]; omega⟩⟩, by simp only [intOf]; omega⟩
        · go_wp2_with fail
          refine (runE_boot0 HR7.out).mono ?_
          rintro e w8 ⟨rfl, hr, hk⟩
          have HR8 := Lib.hid hr
          have HROW8 := Lib.hid (hk.row HROW7.out (fun b hb => hb))
          clear hr hk HR7 HROW7
          go_wp2_with fail
          exact ⟨⟨i + 1, F.boot [], S, by congr 1, by omega, by omega, Lib.hid ⟨HR8.out.le (by omega), HS5.out.boot.mono (by omega), by rw [HSN.out]; exact HROW8.out, by rw [HSN.out]; omega⟩⟩, by simp only [intOf]; omega⟩
      obtain ⟨hpe1, hpe2⟩ := emp_ne hp
      obtain ⟨ji, jm, hji, hjt, hjv⟩ := HAG.out hp rfl
      have HNEWS := Lib.hid (seen_new (p := x.path) hji hjt)
      have HSAME := Lib.hid (show ∀ s ∈ S, s.n.path = nd.path → s.ino = s1 → s.size = s2 → s.time = s3 → s.n = nd from fun s hs h1 h2 h3 h4 => by
        simp only [Prod.mk.injEq] at hjv
        obtain ⟨v1, v2, v3, v4⟩ := hjv
        rw [v1]
        exact seen_same (HS5.out.seen s hs) hji (by rw [h1, v1]) (by rw [h2, v2]) (by rw [h3, v3]) (by rw [h4, v4]))
      have HNS := Lib.hid (show SeenIn F ⟨nd, s1, s2, s3⟩ by
        simp only [Prod.mk.injEq] at hjv
        obtain ⟨v1, v2, v3, v4⟩ := hjv
        rw [v1, v2, v3, v4]
        exact HNEWS.out)
      clear hji hjt hjv HNEWS HAG hp
      rw [hga]
      clear hga
      have hcn := HN6.out.cell
      have hcs := HST6.out.cell
      go_wp2_with fail
      go_loopw [73] (fun y wq => ∃ j : Nat, y = .int .i64 j ∧ j ≤ sn ∧ Off [] W6 wq) (fun y _ => sn - (intOf y).toNat)
      case atStart => exact ⟨0, rfl, by omega, Off.refl _ _⟩
      case round =>
        clear hcn hcs hcc
        obtain ⟨j, rfl, hj, hoq⟩ := hrel
        have HOQ := Lib.hid hoq
        by_cases hjl : j < sn
        · have hjs : j < S.length := by rw [HSN.out]; exact hjl
          obtain ⟨g, cg, hv, hgl, hcl⟩ := seen_row HROW6.out (List.getElem?_eq_getElem hjs) HSN.out
          obtain ⟨rfl, rfl⟩ : pv = some ⟨g, 0, none⟩ ∧ cv = cg := by simpa using hv
          have HSM := Lib.hid (HSAME.out _ (List.getElem_mem hjs))
          generalize S[j] = s at hcl HSM
          have c0 : wr.cell? ⟨g, j * 7, none⟩ = some (.string s.n.path) := (hoq.cell (p := ⟨g, j * 7, none⟩) hgl (by simp)).trans (hcl 0 _ rfl)
          have c1 : wr.cell? ⟨g, j * 7 + 1, none⟩ = some (.int .i64 s.n.kind) := (hoq.cell (p := ⟨g, j * 7 + 1, none⟩) hgl (by simp)).trans (hcl 1 _ rfl)
          have c2 : wr.cell? ⟨g, j * 7 + 2, none⟩ = some (.string s.n.data) := (hoq.cell (p := ⟨g, j * 7 + 2, none⟩) hgl (by simp)).trans (hcl 2 _ rfl)
          have c3 : wr.cell? ⟨g, j * 7 + 3, none⟩ = some (.int .i64 s.n.mode) := (hoq.cell (p := ⟨g, j * 7 + 3, none⟩) hgl (by simp)).trans (hcl 3 _ rfl)
          have c4 : wr.cell? ⟨g, j * 7 + 4, none⟩ = some (.int .i64 s.ino) := (hoq.cell (p := ⟨g, j * 7 + 4, none⟩) hgl (by simp)).trans (hcl 4 _ rfl)
          have c5 : wr.cell? ⟨g, j * 7 + 5, none⟩ = some (.int .i64 s.size) := (hoq.cell (p := ⟨g, j * 7 + 5, none⟩) hgl (by simp)).trans (hcl 5 _ rfl)
          have c6 : wr.cell? ⟨g, j * 7 + 6, none⟩ = some (.int .i64 s.time) := (hoq.cell (p := ⟨g, j * 7 + 6, none⟩) hgl (by simp)).trans (hcl 6 _ rfl)
          have hjn : (j : Int) < sn := by omega
          clear hv hcl hjs hgl hoq
          go_upto_region 18 with fail
          refine code_gen (fun Wj => Blk Wj wr.heap.size 88 #[.string s.n.path, .int .i64 s.n.kind, .string s.n.data, .int .i64 s.n.mode, .int .i64 s.ino, .int .i64 s.size, .int .i64 s.time] ∧ Off [] wr Wj) ⟨Blk.new _ _ _, (Off.refl _ _).alloc _⟩ ?_
          rintro Wj ⟨hbj, hoj⟩
          clear c0 c1 c2 c3 c4 c5 c6
          have hcj := hbj.cell
          have HOJ := Lib.hid (HOQ.out.trans_nil hoj)
          have hcn := (HN6.out.off HOJ.out (by simp)).cell
          have hcs := (HST6.out.off HOJ.out (by simp)).cell
          clear hbj hoj HOQ
          have hgn : Tryz.prog.eqGuardType Tryz.prog.depth 30 = false := by kernel_rfl
          have hgs : Tryz.prog.eqGuardType Tryz.prog.depth 39 = false := by kernel_rfl
          by_cases hpp : s.n.path = nd.path
          · by_cases hst : s.ino = s1 ∧ s.size = s2 ∧ s.time = s3
            · have hnn := HSM.out hpp hst.1 hst.2.1 hst.2.2
              obtain ⟨h1, h2, h3⟩ := hst
              rw [hnn, h1, h2, h3] at hcj
              have hen := eqNodeS nd.path nd.kind nd.data nd.mode
              have hes := eqStampS s1 s2 s3
              clear hpp hnn h1 h2 h3
              go_wp2_with fail
              exact ⟨⟨j + 1, by congr 1, by omega, HOJ.out⟩, by simp only [intOf]; omega⟩
            · rw [hpp] at hcj
              have hes := eqStamp s.ino s.size s.time s1 s2 s3
              rw [decide_eq_false hst] at hes
              clear hpp hst
              go_wp2_with fail
              exact ⟨⟨j + 1, by congr 1, by omega, HOJ.out⟩, by simp only [intOf]; omega⟩
          · have hpq : (s.n.path.toList == nd.path.toList) = false := by
              refine beq_eq_false_iff_ne.2 (fun e => hpp ?_)
              rw [toList_str, toList_str] at e
              exact str_inj e
            clear hpp
            go_wp2_with fail
            exact ⟨⟨j + 1, by congr 1, by omega, HOJ.out⟩, by simp only [intOf]; omega⟩
        · obtain rfl : sn = j := by omega
          have HR7 := Lib.hid (HR6.out.off hoq)
          have HROW7 := Lib.hid (own_offk HROW6.out hoq (by simp))
          have hcn := (HN6.out.off hoq (by simp)).cell
          have hcs := (HST6.out.off hoq (by simp)).cell
          have hrowa := HROW7.out.alloc (.cells #[.string nd.path, .int .i64 nd.kind, .string nd.data, .int .i64 nd.mode, .int .i64 s1, .int .i64 s2, .int .i64 s3] 88)
          clear hoq HR6 HROW6
          go_wp2_with (at_builtin; refine wpList_append_lies _ rfl _ _ 86 rfl w1.heap.size 88 i0 _ 7 72 Tryz.underlying86 hi0 hz0 hz1 hz2 rfl (by decide) _ _ _ rfl hrowa ⟨wr.heap.size, 0, none⟩ 1 1 [_, _, _, _, _, _, _] rfl rfl (seven_at (Blk.new wr _ _)) (by simp [Value.oneCell']) (by omega) (by unfold maxLen; omega) (by omega) (by have := HR7.out.since.size; simp; omega) (wr.heap.size + 1) (by simp) ?_; intro gg cap w8 hown8 hgrow8 hat8 hlt8)
          have hgrow8 : (wr.alloc (.cells #[.string nd.path, .int .i64 nd.kind, .string nd.data, .int .i64 nd.mode, .int .i64 s1, .int .i64 s2, .int .i64 s3] 88)).grownBy w8 (Value.slice pv sn cv).ownBlock := hgrow8
          have hat8 : (Value.slice pv sn cv).ownBlock = some gg ∨ gg = wr.heap.size + 1 := hat8
          have hoff8 : Off (Value.slice pv sn cv).ownBlock.toList wr w8 := ((Off.refl _ wr).alloc _).grown hgrow8 (fun x hx => .inr (by rw [hx]; simp))
          have HR9 := Lib.hid (HR7.out.wrote (k' := (Value.slice (some ⟨gg, 0, none⟩) (sn + 1) cap).ownBlock.toList) HT1.out hoff8 (fun b hb => ⟨hb, (own_made_ HROW7.out b hb).1⟩) (fun b hb => by
            simp [Value.ownBlock] at hb
            subst hb
            rcases hat8 with h | h
            · exact .inl (by rw [h]; simp)
            · exact .inr ⟨by omega, hlt8⟩))
          have HSN1 := Lib.hid (show (S ++ [(⟨nd, s1, s2, s3⟩ : SeenP)]).length = sn + 1 by rw [List.length_append, HSN.out]; rfl)
          have HROW9 := Lib.hid (show w8.ownsRow w1.heap.size 88 7 (.slice (some ⟨gg, 0, none⟩) (sn + 1) cap) (sn + 1) (cellsS (S ++ [(⟨nd, s1, s2, s3⟩ : SeenP)])) by
            have : cellsS (S ++ [(⟨nd, s1, s2, s3⟩ : SeenP)]) = cellsS S ++ [.string nd.path, .int .i64 nd.kind, .string nd.data, .int .i64 nd.mode, .int .i64 s1, .int .i64 s2, .int .i64 s3] := by simp [cellsS, seenCells]
            rw [this]
            exact hown8)
          have HS9 := Lib.hid (show StI F (8100 * i + 4006 + 4005) (S ++ [(⟨nd, s1, s2, s3⟩ : SeenP)]) from ⟨HS5.out.fine, HS5.out.ed, HS5.out.age, fun s hs => by
            rcases List.mem_append.1 hs with hs | hs
            · exact HS5.out.seen s hs
            · simp at hs; subst hs; exact HNS.out⟩)
          clear hoff8 hown8 hgrow8 hat8 hlt8 hrowa hcn hcs HR7 HROW7
          refine (runE_on HR9.out).mono ?_
          rintro e w7 ⟨rfl, hr, ho⟩
          have HR7 := Lib.hid hr
          have HROW7 := Lib.hid (own_offk HROW9.out ho (by simp))
          clear hr ho HR9 HROW9
          cases hoff : F.off
          · go_wp2_with fail
            exact ⟨⟨i + 1, F, (S ++ [(⟨nd, s1, s2, s3⟩ : SeenP)]), by congr 1, by omega, by omega, Lib.hid ⟨HR7.out.le (by omega), HS9.out.mono (by omega), by rw [HSN1.out]; exact HROW7.out, by rw [HSN1.out]; omega⟩⟩, by simp only [intOf]; omega⟩
          · go_wp2_with fail
            refine (runE_boot0 HR7.out).mono ?_
            rintro e w8 ⟨rfl, hr, hk⟩
            have HR8 := Lib.hid hr
            have HROW8 := Lib.hid (hk.row HROW7.out (fun b hb => hb))
            clear hr hk HR7 HROW7
            go_wp2_with fail
            exact ⟨⟨i + 1, F.boot [], (S ++ [(⟨nd, s1, s2, s3⟩ : SeenP)]), by congr 1, by omega, by omega, Lib.hid ⟨HR8.out.le (by omega), HS9.out.boot.mono (by omega), by rw [HSN1.out]; exact HROW8.out, by rw [HSN1.out]; omega⟩⟩, by simp only [intOf]; omega⟩
    · obtain rfl : i = m := by omega
      go_wp2_with fail
      go_ret
      exact ⟨rfl, HO1.out.trans_nil HRW.out.1.since⟩
end Go.Proofs.YtgcfkljooabjjaaGreatDoor
