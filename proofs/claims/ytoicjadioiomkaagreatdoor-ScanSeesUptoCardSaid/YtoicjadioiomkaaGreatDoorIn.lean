/- Texts of this claim, one behind the other: Sees. Conditions: what each lemma states. -/
import Derived.Test.YtoicjadioiomkaaGreatDoorIm
namespace Go.Proofs.YtoicjadioiomkaaGreatDoor
open Go.RowKit Go.Op Go.Maps
theorem same_own8 {w : World} {b1 b2 : Nat} {v1 v2 : Value} {L : List Node} (h1 : w.ownsRow b1 30 4 v1 L.length (cellsOf L)) (h2 : w.ownsRow b2 30 4 v2 L.length (cellsOf L)) (hl : L.length ≤ 100000) :
    Calls Tryz.prog 16 #[v1, v2] w fun e w' => e = .returned (.bool true) ∧ Off [] w w' := by
  obtain ⟨p, c, rfl, hp, -⟩ := own_row h1; obtain ⟨q, d, rfl, hq, -⟩ := own_row h2; have := rsame_any L L p q c d w (by omega) (by omega) hp hq; rw [decide_eq_true rfl] at this; exact this
theorem RunE.old {w0 w : World} {p n b : Nat} {D : PDisk} {k : List Nat} (h : RunE w0 w p D n k) (hb : b < w0.heap.size) : RunE w0 w p D n (b :: k) := by
  obtain ⟨G, h1, h2, h3, h4, h5⟩ := h; refine ⟨G, h1, h2, h3, h4, fun x hx => ?_⟩
  rcases List.mem_cons.1 hx with rfl | hx
  · refine ⟨Nat.lt_of_lt_of_le hb h2.size, fun hm => ?_⟩
    rcases List.mem_cons.1 hm with rfl | hm
    · omega
    have := h4 _ hm; omega
  exact h5 x hx
theorem valueW_get {see : ByteArray → Bool} {D D1 : PDisk} {path : ByteArray} {nd : Node} {st : Stm} (hs : see path = true) (hG : D.edited.get path = ((0, nd, st), D1)) :
    valueW see D path = if nd.kind = 2 then
        match walkW see 17 D1 path (wk0.add nd st) with
        | (e2, a, D2) => if e2 ≠ 0 then (e2, ([], [], false), D2) else (0, (a.tree.map (trimN (str path)), a.stamps, decide (0 < a.blocked.length)), D2)
      else (0, ([trimN (str path) nd], [st], false), D1) := by
  unfold valueW; rw [if_pos hs, hG]; dsimp only; rw [if_neg (by decide), if_neg (by decide)]
theorem valueC_get {see : ByteArray → Bool} {D D1 : PDisk} {path : ByteArray} {nd : Node} {st : Stm} (hs : see path = true) (hG : D.edited.get path = ((0, nd, st), D1)) :
    valueC see D path = 1 + if nd.kind = 2 then walkC see 17 D1 path (wk0.add nd st) else 0 := by
  unfold valueC; rw [if_pos hs, hG]; dsimp only; simp only [true_and]
theorem value_quiet {L : List RuleP} {D E : PDisk} {n0 : Nat} (hF : Fine D n0) (ht : okTree D.tree = true) (hS : SameQ D E) {x : Node} (hx : x ∈ D.tree) (hs : seeV L x.path = true) :
    ∃ S b E', valueW (seeV L) E x.path = (0, ((x :: foundIn (seeV L) D.tree x.p).map (trimN (str x.path)), S, b), E') ∧ SameQ D E' ∧ valueC (seeV L) E x.path ≤ 2 * D.tree.length + 2 := by
  have hG : E.edited.get x.path = ((0, x, stampD D x), E.tick ⟨#[71, 101, 116]⟩ x.path ⟨#[]⟩) := by
    rw [hS.edited, hS.calm.get, hS.get_, (get_node hF hx).1]
  have hT := hS.tick ⟨#[71, 101, 116]⟩ x.path ⟨#[]⟩; rw [valueW_get hs hG, valueC_get hs hG]
  by_cases hk : x.kind = 2
  · rw [if_pos hk, if_pos hk]
    obtain ⟨E', h1, h2⟩ := walk_quiet (see_ok L) hF ht 17 _ x.path (wk0.add x (stampD D x)) hT (.inr ⟨x, hx, rfl, hk⟩) (Nat.le_add_right _ _); have h3 := walkC_le (see := seeV L) 17 (E.tick ⟨#[71, 101, 116]⟩ x.path ⟨#[]⟩) x.path (wk0.add x (stampD D x)); rw [h1] at h3; have hfl : (foundIn (seeV L) D.tree (str x.path)).length ≤ D.tree.length := by
      unfold foundIn subN; exact Nat.le_trans (List.length_filter_le _ _) (List.length_filter_le _ _)
    have h4 : walkC (seeV L) 17 (E.tick ⟨#[71, 101, 116]⟩ x.path ⟨#[]⟩) x.path (wk0.add x (stampD D x)) ≤ 2 * D.tree.length + 1 := by
      generalize walkC (seeV L) 17 (E.tick ⟨#[71, 101, 116]⟩ x.path ⟨#[]⟩) x.path (wk0.add x (stampD D x)) = vc at *
      simp only [bad01, if_true, Wk.plus, Wk.add, wk0, List.nil_append, List.length_cons, List.length_append, List.length_nil] at h3
      omega
    rw [h1]; dsimp only; rw [if_neg (by decide)]; exact ⟨_, _, E', rfl, h2, by omega⟩
  rw [if_neg hk, if_neg hk]; have : foundIn (seeV L) D.tree x.p = [] := by unfold foundIn; rw [inD_file ht hx hk]; rfl
  rw [this]; exact ⟨_, _, _, rfl, hT, by omega⟩
theorem rules_kept {w : World} {L : List RuleP} {q : Option Addr} {c : Nat} (h : RlOk w L q c) : ∃ K, RlK K w L q c ∧ ∀ b ∈ K, b < w.heap.size := by
  by_cases hL : L = []
  · exact ⟨[], ⟨h, fun h2 => absurd hL h2⟩, fun b hb => by cases hb⟩
  obtain ⟨a, e, hB, -⟩ := h.2.2.1 hL; exact ⟨[a.block], ⟨h, fun _ a2 e2 => by rw [e] at e2; cases e2; simp⟩, fun b hb => by simp at hb; subst hb; exact hB⟩
theorem RlK.offW {K : List Nat} {w w' : World} {L : List RuleP} {q : Option Addr} {c : Nat} (h : RlK K w L q c) (ho : Off [] w w') : RlK K w' L q c := ⟨h.1.off ho, h.2⟩
theorem RunE.olds {w0 w : World} {p n : Nat} {D : PDisk} {k : List Nat} (h : RunE w0 w p D n k) : ∀ (K : List Nat), (∀ b ∈ K, b < w0.heap.size) → RunE w0 w p D n (K ++ k)
  | [], _ => h
  | b :: K, hK => RunE.old (h.olds K fun x hx => hK x (List.mem_cons_of_mem _ hx)) (hK b (List.mem_cons_self ..))
set_option maxRecDepth 100000 in
set_option maxHeartbeats 16000000 in
theorem ssees_any (fp : Option Addr) (t : List Node) (n c : Nat) (q : Option Addr) (L : List RuleP) (m cL : Nat) (w : World) (hR : Row w fp t) (hn : t.length = n) (hc : n ≤ c) (hcm : c ≤ maxLen) (hF : Fits1 t) (hnb : n ≤ 1048576)
    (hL : RlOk w L q cL) (hm : L.length = m) (hmb : m ≤ 1048576) (hT : Tabs w) :
    Calls Tryz.prog 4 #[.slice fp n c, .slice q m cL] w fun e w' => e = .returned (.bool true) ∧ Off [] w w' := by
  obtain ⟨K, hRK, hKl⟩ := rules_kept hL; have HT := Lib.hid hT; have HR0 := Lib.hid hR; have HN := Lib.hid hn; have HFT := Lib.hid hF; have HRK := Lib.hid hRK; have HKL := Lib.hid hKl; have HM := Lib.hid hm; have HAW := Lib.hid (fun (W : World) (ho : Off [] w W) => awake11_any W (hT.off ho))
  have HSH := Lib.hid (fun (W : World) (ho : Off [] w W) (v : Bool) (hv : shortV t L = v) => short_v fp q t L n c m cL W (hR.off ho) hn hnb hF (hL.off ho).2.2.1 hm hmb hL.2.2.2 v hv)
  have HSS := Lib.hid (fun (W : World) (ho : Off [] w W) (x : ByteArray) (v : Bool) (hv : seeV L x = v) => (show Calls Tryz.prog 15 #[.slice q m cL, .string x] W fun e w' => e = .returned (.bool v) ∧ Off [] W w' from by
    have := scanSeen_any L q cL x W (hL.off ho) (hT.off ho); rw [hm, hv] at this; exact this))
  unfold maxLen at hcm; clear hT hR hn hF hRK hKl hm hL
  go_enter Tryz.func4, Tryz.ntmps4
  go_wp2_with fail
  refine (HAW.out _ (Off.refl _ _)).mono ?_
  rintro e w1 ⟨rfl, ho1⟩; have HO1 := Lib.hid ho1; clear ho1 HAW
  cases hs : shortV t L
  · have HSC := Lib.hid (HSH.out w1 HO1.out false hs)
    clear hs
    go_wp2_with fail
    refine HSC.out.mono ?_
    rintro e w2 ⟨rfl, ho2⟩
    go_wp2_with fail
    go_ret
    exact ⟨rfl, HO1.out.trans_nil ho2⟩
  have HSC := Lib.hid (HSH.out w1 HO1.out true hs); have hn40 : n ≤ 40 := by
    unfold shortV at hs; simp only [Bool.and_eq_true, decide_eq_true_eq] at hs; rw [← HN.out]; exact hs.2.1.2
  clear hs HSH
  go_wp2_with fail
  refine HSC.out.mono ?_
  rintro e w2 ⟨rfl, ho2⟩; have HO2 := Lib.hid (HO1.out.trans_nil ho2); clear ho2 HSC
  by_cases hok : okTree t = true
  case neg =>
    have hok : okTree t = false := by simpa using hok
    have HNB := Lib.hid (dnew_bad fp t n c w2 (HR0.out.off HO2.out) HN.out hc (by unfold maxLen; omega) hok HFT.out.fits (HT.out.off HO2.out)); clear hok
    go_wp2_with fail
    refine HNB.out.mono ?_
    rintro e w3 ⟨rfl, ho3⟩
    go_wp2_with fail
    go_ret
    exact ⟨rfl, HO2.out.trans_nil ho3⟩
  have HOK := Lib.hid hok; have HNEW := Lib.hid (run_new fp t n c w2 w2 (Off.refl _ _) (HT.out.off HO2.out) (HR0.out.off HO2.out) HN.out hc hok HFT.out.fits); clear hok
  go_wp2_with fail
  refine HNEW.out.mono ?_
  rintro e w3 ⟨gd, rfl, hr⟩; have HR3 := Lib.hid ((hr.e.olds K (fun b hb => Nat.lt_of_lt_of_le (HKL.out b hb) HO2.out.size)).drop (k' := K) (fun b hb => List.mem_append_left _ hb)); have HO3 := Lib.hid (HO2.out.trans_nil hr.since); have HFN := Lib.hid (newD_fine HOK.out HFT.out.fits); have HTW := Lib.hid (HT.out.off HO2.out)
  obtain ⟨Wn, hWn⟩ : ∃ Wn, (t.filter fun x => seeV L x.path) = Wn := ⟨_, rfl⟩
  obtain ⟨nw, hnw⟩ : ∃ nw, Wn.length = nw := ⟨_, rfl⟩
  have hnwn : nw ≤ n := by rw [← hnw, ← hWn, ← HN.out]; exact List.length_filter_le _ _
  have HWN := Lib.hid hWn; have HNW := Lib.hid hnw; have hfw : foundIn (seeV L) t [] = Wn := by rw [found_root]; exact hWn
  have hbud : nw * (2 * n + 2) ≤ 40 * (2 * 40 + 2) := Nat.mul_le_mul (by omega) (by omega)
  have HSC1 := Lib.hid (show Calls Tryz.prog 13 #[.pointer (some ⟨gd, 0, none⟩), .slice q m cL] w3 _ from by
    have := scan_quiet (m := nw * (2 * n + 2)) HFN.out (by rw [newD_tree HOK.out]; exact HOK.out) (SameQ.refl (newD_calm _) rfl) HR3.out (HRK.out.offW HO3.out) HTW.out ⟨HFN.out, cost_nil rfl, by rw [newD_tree HOK.out, HN.out]; omega, by rw [newD_tree HOK.out, HN.out]; omega⟩; rw [HM.out, newD_tree HOK.out, hfw] at this; exact this)
  clear hr HNEW HR3 hWn hnw hfw
  go_wp2_with fail
  refine HSC1.out.mono ?_
  rintro e w4 ⟨tv, sv, bv, n1, E1, rfl, h3, hr, hsq, hbd, -⟩; obtain ⟨h1, h2, -⟩ := h3; rw [List.length_map, HNW.out] at h2; rw [HNW.out] at h1; obtain ⟨pa, ca, rfl, -, -, -⟩ := own_atG h1; obtain ⟨ps, cs, rfl, -, -, -⟩ := own_atG h2; have HA4 := Lib.hid h1; have HR4 := Lib.hid (hr.drop (k' := K) (fun b hb => List.mem_append_right _ (by simpa using hb))); have HSQ := Lib.hid hsq
  have HBD := Lib.hid hbd; have HO4 := Lib.hid (HO2.out.trans_nil hr.since); clear h1 h2 hr hsq hbd HSC1; obtain ⟨i0, hi0, hz0, hz1, hz2⟩ := info_parts infoNode
  go_wp2_with fail
  go_loopw [44, 10] (fun x z wr => ∃ (i : Nat), x = .int .i64 i ∧ i ≤ n ∧ Hid (wr.ownsRow w4.heap.size 30 4 z ((t.take i).filter fun x => seeV L x.path).length (cellsOf ((t.take i).filter fun x => seeV L x.path))) ∧ Off [] w4 wr) (fun x _ _ => n - (intOf x).toNat)
  case atStart => exact ⟨0, rfl, Nat.zero_le _, Lib.hid (World.ownsRow_nil _ _ _ _), Off.refl _ _⟩
  case round =>
    obtain ⟨i, rfl, hi, HZ, hof⟩ := hrel
    by_cases hlt : i < n
    · obtain ⟨x, hx⟩ : ∃ x, t[i]? = some x := ⟨t[i]'(by rw [HN.out]; exact hlt), List.getElem?_eq_getElem _⟩
      obtain ⟨ga, rfl, hnx, hgb⟩ := (HR0.out.off (HO4.out.trans_nil hof)).get i (by rw [HN.out]; exact hlt); rw [(Option.some.inj ((List.getElem?_eq_getElem _).symm.trans hx) : t[i]'(by rw [HN.out]; exact hlt) = x)] at hnx; have c0 := hnx.path; have c1 := hnx.kind; have c2 := hnx.data; have c3 := hnx.mode; have hgb2 : (ga.add (i * 4)).block < wr.heap.size := by rw [add_block]; exact hgb
      have HTK := Lib.hid (take_get hx); have HO := Lib.hid hof; have hlen : ((t.take i).filter fun x => seeV L x.path).length ≤ 40 := by
        have := List.length_filter_le (fun x : Node => seeV L x.path) (t.take i); rw [List.length_take] at this; omega
      generalize hX : ((t.take i).filter fun x => seeV L x.path) = X at *
      have HXE := Lib.hid hX; clear hx hof hnx hgb hX
      go_upto_region 13 with fail
      refine code_gen (fun W => Blk W wr.heap.size 30 #[.string x.path, .int .i64 x.kind, .string x.data, .int .i64 x.mode] ∧ Off [] wr W) ⟨Blk.new _ _ _, (Off.refl _ _).alloc _⟩ ?_
      rintro W ⟨hbx, hofx⟩; have HBX := Lib.hid hbx; have hcx := hbx.cell; have hlx := hbx.lt; have HOX := Lib.hid (HO.out.trans_nil hofx); have HZX := Lib.hid (own_offk (k := []) HZ.out hofx (by simp)); clear c0 c1 c2 c3 hgb2 hbx hofx HZ
      cases hsx : seeV L x.path
      · have HNX := Lib.hid (show ((t.take (i + 1)).filter fun x => seeV L x.path) = X by
          rw [HTK.out, List.filter_append, HXE.out, List.filter_cons_of_neg (by rw [hsx]; simp)]; simp)
        have HSX := Lib.hid (HSS.out W (HO4.out.trans_nil HOX.out) x.path false hsx); clear hsx
        go_wp2_with fail
        refine HSX.out.mono ?_
        rintro e w6 ⟨rfl, ho6⟩; have HZ6 := Lib.hid (own_offk (k := []) HZX.out ho6 (by simp)); have HO6 := Lib.hid (HOX.out.trans_nil ho6); clear ho6 hcx hlx
        go_wp2_with fail
        refine ⟨⟨i + 1, by congr 1, by omega, Lib.hid ?_, HO6.out⟩, by simp only [intOf]; omega⟩
        rw [HNX.out]; exact HZ6.out
      have HNX := Lib.hid (show ((t.take (i + 1)).filter fun x => seeV L x.path) = X ++ [x] by
        rw [HTK.out, List.filter_append, HXE.out, List.filter_cons_of_pos (p := fun x : Node => seeV L x.path) hsx]
        rfl)
      have HSX := Lib.hid (HSS.out W (HO4.out.trans_nil HOX.out) x.path true hsx); clear hsx
      go_wp2_with fail
      refine HSX.out.mono ?_
      rintro e w6 ⟨rfl, ho6⟩; have HZ6 := own_offk (k := []) HZX.out ho6 (by simp); have HO6 := Lib.hid (HOX.out.trans_nil ho6); have hb6 := HBX.out.off ho6 (by simp); have hcx := hb6.cell; have hlx := hb6.lt; have hal := HZ6.alloc (.cells #[.string x.path, .int .i64 x.kind, .string x.data, .int .i64 x.mode] 30); clear ho6 hb6
      go_wp2_with (at_builtin; refine wpList_append_own _ rfl _ _ 22 rfl w4.heap.size 30 i0 node0.val 4 48 Tryz.underlying22 hi0 hz0 hz1 hz2 rfl (by decide) _ _ _ rfl hal ⟨w6.heap.size, 0, none⟩ 1 1 [_, _, _, _] rfl rfl (four_at8 (Blk.new w6 _ _)) (by simp [Value.oneCell']) (by unfold maxLen; omega) (by omega) (by have := HO6.out.size; simp; omega) ?_; intro v' W6 hown' hgrow _)
      refine ⟨⟨i + 1, by congr 1, by omega, Lib.hid ?_, own_off HO6.out HZ6 hgrow⟩, by simp only [intOf]; omega⟩
      rw [HNX.out, List.length_append, cellsOf_append]; exact hown'
    obtain rfl : i = n := by omega
    have hz := HZ.out; rw [show ((t.take i).filter fun x => seeV L x.path) = Wn by rw [List.take_of_length_le (by rw [HN.out]; exact Nat.le_refl _)]; exact HWN.out, HNW.out] at hz; have HO := Lib.hid hof; clear hof HZ hlt hi; have htr : E1.tree = t := by rw [HSQ.out.tree, newD_tree HOK.out]
    have hA5 : wr.ownsRow 0 30 4 (.slice pa nw ca) Wn.length (cellsOf Wn) := by rw [HNW.out]; exact own_offk (k := []) HA4.out HO.out (by simp)
    have hZ5 := hz; rw [← HNW.out] at hZ5; have HSM := Lib.hid (same_own8 hA5 hZ5 (by rw [HNW.out]; omega)); obtain ⟨pz, cz, rfl, -, -, -⟩ := own_atG hz; have HZ5 := Lib.hid hz; have HR5 := Lib.hid (HR4.out.more (k' := (Value.slice pz nw cz).ownBlock.toList) HO.out (own_made_ hz)); clear hA5 hZ5 hz HR4 HA4
    go_wp2_with fail
    refine HSM.out.mono ?_
    rintro e w6 ⟨rfl, ho6⟩; have HR6 := Lib.hid (HR5.out.off ho6); have HZ6 := Lib.hid (own_offk (k := []) HZ5.out ho6 (by simp)); clear ho6 HR5 HZ5 HSM
    go_wp2_with fail
    refine (runC_tree HR6.out (by have := HBD.out.2.2.1; omega)).mono ?_
    rintro e w7 ⟨⟨v, rfl, hv⟩, hr7, ho7⟩; have HR7 := Lib.hid hr7; have HZ7 := Lib.hid (own_offk (k := []) HZ6.out ho7 (by simp)); rw [htr] at hv; obtain ⟨p7, c7, rfl, hrw7, -⟩ := own_row hv; have HSM := Lib.hid (show Calls Tryz.prog 16 #[.slice p7 i c7, .slice fp i c] w7 fun e w' => e = .returned (.bool true) ∧ Off [] w7 w' from by
      have := rsame_any t t p7 fp c7 c w7 (by rw [HN.out]; omega) (by rw [HN.out]; omega) hrw7 (HR0.out.off (HO2.out.trans_nil hr7.since)); rw [HN.out, decide_eq_true rfl] at this; exact this)
    rw [HN.out]; clear hv hrw7 hr7 ho7 HR6 HZ6
    go_wp2_with fail
    refine HSM.out.mono ?_
    rintro e w8 ⟨rfl, ho8⟩; have HR8 := Lib.hid (HR7.out.off ho8); have HZ8 := Lib.hid (own_offk (k := []) HZ7.out ho8 (by simp)); clear ho8 HR7 HZ7 HSM htr
    go_wp2_with fail
    go_loopw [81] (fun x wq => ∃ (k : Nat) (E : PDisk) (n' : Nat), x = .int .i64 k ∧ k ≤ nw ∧ Hid (RunE w2 wq gd E n' ((Value.slice pz nw cz).ownBlock.toList ++ K) ∧ SameQ (newD t) E ∧ BudC 0 ((nw - k) * (2 * i + 2)) E n') ∧ Hid (wq.ownsRow w4.heap.size 30 4 (.slice pz nw cz) nw (cellsOf Wn))) (fun x _ => nw - (intOf x).toNat)
    case atStart => exact ⟨0, E1, n1, rfl, Nat.zero_le _, Lib.hid ⟨HR8.out, HSQ.out, HBD.out⟩, HZ8⟩
    case round =>
      clear HR8 HZ8 HSQ HBD; obtain ⟨k, E, n', rfl, hk, HRE, HZ⟩ := hrel
      by_cases hlt : k < nw
      · obtain ⟨x, hx⟩ : ∃ x, Wn[k]? = some x := ⟨Wn[k]'(by rw [HNW.out]; exact hlt), List.getElem?_eq_getElem _⟩
        obtain ⟨p9, c9, e0, -, -, k0⟩ := own_atG HZ.out; injection e0 with e1 e2 e3
        subst e1 e3; obtain ⟨gz, rfl, -, hgl, -, k0⟩ := k0 (by omega); have c0 : wr.cell? ⟨gz, k * 4, none⟩ = some (.string x.path) := k0 (k * 4) _ (nd_get hx)
        have c1 : wr.cell? ⟨gz, k * 4 + 1, none⟩ = some (.int .i64 x.kind) := k0 (k * 4 + 1) _ (flat_getG (fun n : Node => [.string n.path, .int .i64 n.kind, .string n.data, .int .i64 n.mode]) 4 (fun _ => rfl) Wn k 1 x hx (by decide))
        have c2 : wr.cell? ⟨gz, k * 4 + 2, none⟩ = some (.string x.data) := k0 (k * 4 + 2) _ (flat_getG (fun n : Node => [.string n.path, .int .i64 n.kind, .string n.data, .int .i64 n.mode]) 4 (fun _ => rfl) Wn k 2 x hx (by decide))
        have c3 : wr.cell? ⟨gz, k * 4 + 3, none⟩ = some (.int .i64 x.mode) := k0 (k * 4 + 3) _ (flat_getG (fun n : Node => [.string n.path, .int .i64 n.kind, .string n.data, .int .i64 n.mode]) 4 (fun _ => rfl) Wn k 3 x hx (by decide))
        have hxm := List.mem_of_getElem? hx; rw [← HWN.out] at hxm; obtain ⟨hx1, hx2⟩ := List.mem_filter.1 hxm; have HX1 := Lib.hid hx1; have HX2 := Lib.hid hx2; clear hx k0 hxm hx1 hx2
        go_upto_region 21 with fail
        refine code_gen (fun W => Blk W wr.heap.size 30 #[.string x.path, .int .i64 x.kind, .string x.data, .int .i64 x.mode] ∧ Off [] wr W) ⟨Blk.new _ _ _, (Off.refl _ _).alloc _⟩ ?_
        rintro W ⟨hbx, hofx⟩; have HBX := Lib.hid hbx; have hcx := hbx.cell; have hlx := hbx.lt; have HRW := Lib.hid (HRE.out.1.more (k' := [wr.heap.size]) hofx (fun b hb => by simp at hb; subst hb; exact ⟨Nat.le_refl _, hbx.lt⟩)); have HZW := Lib.hid (own_offk (k := []) HZ.out hofx (by simp))
        have HRKW := Lib.hid (show RlK ([wr.heap.size] ++ ((Value.slice (some ⟨gz, 0, none⟩) nw cz).ownBlock.toList ++ K)) W L q cL from (HRK.out.offW (HO2.out.trans_nil HRW.out.since)).more (fun b hb => List.mem_append_right _ (List.mem_append_right _ hb)))
        obtain ⟨S, b, E', hv1, hv2, hv3⟩ := value_quiet (L := L) HFN.out (by rw [newD_tree HOK.out]; exact HOK.out) HRE.out.2.1 (by rw [newD_tree HOK.out]; exact HX1.out) HX2.out; rw [newD_tree HOK.out, HN.out] at hv3; rw [newD_tree HOK.out] at hv1; have hmul : (nw - k) * (2 * i + 2) = (nw - (k + 1)) * (2 * i + 2) + (2 * i + 2) := by
          rw [show nw - k = (nw - (k + 1)) + 1 by omega, Nat.succ_mul]
        have HVA := Lib.hid (show Calls Tryz.prog 18 #[.pointer (some ⟨gd, 0, none⟩), .slice q m cL, .string x.path] W _ from by
          have := value_any (m := (nw - (k + 1)) * (2 * i + 2)) x.path (budC w2 gd 0) HRW.out HRKW.out HTW.out ((budC w2 gd 0).less HRE.out.2.2 (by rw [hmul]; omega)) (by omega); rw [HM.out, hv1] at this; exact this)
        have htl : ((x :: foundIn (seeV L) t x.p).map (trimN (str x.path))) = atR Wn (str x.path) := by
          rw [← HWN.out, atR_path (q := str x.path) (seen_tree HOK.out (see_ok L)) (okTree_path HOK.out HX1.out)]
          congr 1
          exact (seen_at HOK.out HX1.out HX2.out).symm
        have HTL := Lib.hid htl; have HQ2 := Lib.hid hv2; clear c0 c1 c2 c3 hbx hofx hv1 hv2 hv3 htl hmul HRE HZ hgl
        go_wp2_with fail
        refine HVA.out.mono ?_
        rintro e w9 ⟨vt, vs, n9, rfl, h1, -, hr9, hb9, hk9⟩; dsimp only at h1 hr9 hb9; have hb9x := hk9.blk HBX.out (List.mem_append_left _ (by simp)); have HZ9 := Lib.hid (hk9.row HZW.out (fun b hb => List.mem_append_right _ (List.mem_append_left _ hb)))
        have HRX := Lib.hid (hr9.drop (k' := (Value.slice (some ⟨gz, 0, none⟩) nw cz).ownBlock.toList ++ K) (fun b hb => List.mem_append_right _ (List.mem_append_right _ hb))); have HB9 := Lib.hid hb9; have HBX9 := Lib.hid hb9x; have HV9 := Lib.hid (show w9.ownsRow 0 30 4 vt (atR Wn (str x.path)).length (cellsOf (atR Wn (str x.path))) by rw [← HTL.out]; exact h1)
        rw [List.length_map, List.length_cons] at h1; obtain ⟨nv, hnv⟩ : ∃ nv, (foundIn (seeV L) t x.p).length = nv := ⟨_, rfl⟩
        rw [hnv] at h1; have hnl : (atR Wn (str x.path)).length = nv + 1 := by rw [← HTL.out, List.length_map, List.length_cons, hnv]
        have hnvl : nv ≤ 1000 := by
          rw [← hnv]; have := okTree_len HOK.out; unfold foundIn subN; have h1 := List.length_filter_le (fun n : Node => seeV L n.path) (List.filter (fun n => inD n.p x.p) t); have h2 := List.length_filter_le (fun n : Node => inD n.p x.p) t; omega
        obtain ⟨pv, cv, rfl, hcv, hcv2, kv⟩ := own_atG h1; unfold maxLen at hcv2; obtain ⟨gv, rfl, -, hgv, -, kv⟩ := kv (by omega); have HNL := Lib.hid hnl; have HAT := Lib.hid (fun (W' : World) (ho : Off [] w9 W') => (show Calls Tryz.prog 19 #[.slice (some ⟨gz, 0, none⟩) nw cz, .string x.path] W' (OwnT8 (atR Wn (str x.path)) W') from by
          obtain ⟨pp, cc, ee, hrr, -⟩ := own_row (t := Wn) (show W'.ownsRow w4.heap.size 30 4 (.slice (some ⟨gz, 0, none⟩) nw cz) Wn.length (cellsOf Wn) by rw [HNW.out]; exact own_offk (k := []) HZ9.out ho (by simp)); rw [HNW.out] at ee
          cases ee
          exact rat_any8 _ Wn nw cz x.path W' hrr HNW.out (fun h => by cases h) (by rw [← HWN.out]; exact seen_tree HOK.out (see_ok L)) (.inr (okTree_path HOK.out HX1.out))))
        have d1 : w9.cell? ⟨gv, 1, none⟩ = some (.int .i64 x.kind) := kv 1 _ rfl
        have d2 : w9.cell? ⟨gv, 2, none⟩ = some (.string x.data) := kv 2 _ rfl
        have HS := Lib.hid (show ∀ W', Off [] w9 W' → W'.cell? ⟨gv, 1, none⟩ = some (.int .i64 x.kind) ∧ W'.cell? ⟨gv, 2, none⟩ = some (.string x.data) ∧ W'.cell? ⟨wr.heap.size, 0, none⟩ = some (.string x.path) ∧ W'.cell? ⟨wr.heap.size, 1, none⟩ = some (.int .i64 x.kind) ∧ W'.cell? ⟨wr.heap.size, 2, none⟩ = some (.string x.data) from fun W' ho =>
          ⟨(ho.cell (p := ⟨gv, 1, none⟩) hgv (by simp)).trans d1, (ho.cell (p := ⟨gv, 2, none⟩) hgv (by simp)).trans d2, (ho.cell (p := ⟨wr.heap.size, 0, none⟩) hb9x.lt (by simp)).trans (hb9x.cell 0), (ho.cell (p := ⟨wr.heap.size, 1, none⟩) hb9x.lt (by simp)).trans (hb9x.cell 1), (ho.cell (p := ⟨wr.heap.size, 2, none⟩) hb9x.lt (by simp)).trans (hb9x.cell 2)⟩)
        have hdd : (x.data.toList == x.data.toList) = true := beq_self_eq_true _
        have hsm := hr9.off (Off.refl [] w9); clear h1 hr9 hb9 hk9 hb9x hnv hnl d1 d2 kv hgv hcx hlx HRW HZW HRKW HVA HBX hsm
        go_wp2_with fail
        go_cut [128] from 95 to 128 (fun a wx => a = .bool false ∧ Off [] w9 wx)
        case first =>
          have hch := Off.refl [] w9.drew
          go_region_held3 (fun W' => W'.cell? ⟨gv, 1, none⟩ = some (.int .i64 x.kind) ∧ W'.cell? ⟨gv, 2, none⟩ = some (.string x.data) ∧ W'.cell? ⟨wr.heap.size, 0, none⟩ = some (.string x.path) ∧ W'.cell? ⟨wr.heap.size, 1, none⟩ = some (.int .i64 x.kind) ∧ W'.cell? ⟨wr.heap.size, 2, none⟩ = some (.string x.data)) (first | assumption | exact HS.out _ ((Off.refl [] w9).drew.trans_nil hch)) (first
            | (go_at_call 19; refine (HAT.out _ ((Off.refl [] w9).drew.trans_nil hch)).mono ?_; rintro e' wA ⟨va, rfl, hva, hoA⟩; have hch := hch.trans_nil hoA)
            | (go_at_call 16; refine (same_own8 (own_offk (k := []) HV9.out ((Off.refl [] w9).drew.trans_nil hch) (by simp)) hva (by rw [HNL.out]; omega)).mono ?_; rintro e' wA ⟨rfl, hoA⟩; have hch := hch.trans_nil hoA))
          all_goals go_wp2_with fail
          all_goals go_meet
          all_goals exact ⟨rfl, (Off.refl [] w9).drew.trans_nil hch⟩
        obtain ⟨rfl, ho9⟩ := hcut
        go_wp2_with fail
        exact ⟨⟨k + 1, E', n9, by congr 1, by omega, Lib.hid ⟨HRX.out.off ho9, HQ2.out, HB9.out⟩, Lib.hid (own_offk (k := []) HZ9.out ho9 (by simp))⟩, by simp only [intOf]; omega⟩
      obtain rfl : k = nw := by omega
      have HO9 := Lib.hid (HO2.out.trans_nil HRE.out.1.since)
      go_wp2_with fail
      go_ret
      exact ⟨rfl, HO9.out⟩
end Go.Proofs.YtoicjadioiomkaaGreatDoor
