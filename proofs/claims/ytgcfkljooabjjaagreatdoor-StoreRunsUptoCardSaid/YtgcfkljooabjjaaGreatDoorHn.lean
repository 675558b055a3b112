/- Texts of this claim, one behind the other: RStep ROpA ROpW ROpL ROpR ROpP ROpM QTail ROpG RNm ROpN. Conditions: what each lemma states. -/
import Derived.Test.YtgcfkljooabjjaaGreatDoorHm
import Derived.Test.YtgcfkljooabjjaaGreatDoorHb
import Derived.StillTail
import Derived.Test.YtgcfkljooabjjaaGreatDoorHg
import Derived.Test.YtgcfkljooabjjaaGreatDoorHd
namespace Go.Proofs.YtgcfkljooabjjaaGreatDoor
section
open Go.RowKit Go.Op Go.Maps
variable {A : RArg}
theorem find_hit7 {α : Type} {P : α → Bool} : ∀ {l : List α} {i : Nat} {f : α}, (∀ (j : Nat) (g : α), j < i → l[j]? = some g → P g = false) → l[i]? = some f → P f = true → l.find? P = some f
  | [], _, _, _, h, _ => by simp at h
  | x :: l, 0, f, _, h, hp => by
    have : x = f := by simpa using h
    subst this; rw [List.find?_cons, hp]
  | x :: l, i + 1, f, hj, h, hp => by
    rw [List.find?_cons, hj 0 x (by omega) rfl]; exact find_hit7 (fun j g h1 h2 => hj (j + 1) g (Nat.succ_lt_succ h1) (by simpa using h2)) (by simpa using h) hp
theorem find_no7 {α : Type} {P : α → Bool} : ∀ {l : List α}, (∀ (j : Nat) (g : α), l[j]? = some g → P g = false) → l.find? P = none
  | [], _ => rfl
  | x :: l, hj => by
    rw [List.find?_cons, hj 0 x rfl]; exact find_no7 fun j g h => hj (j + 1) g (by simpa using h)
theorem step_mid7 {w W w7 : World} {p T gg cap : Nat} {cl : Nat} {L : List Nat} {G : RGeo} {E : PDisk} {call P1 P2 : ByteArray} {o : Obj} {W6 : World} (hS : RefS A w p L W G E) (hT : E.trace.length = T) (hcl : E.clock = cl)
    (hB : Blk W6 p 69 (((refCells A G E).setIfInBounds 5 (.int .i64 ((T : Int) + 1))).setIfInBounds 6 (.int .i64 ((cl : Int) + 1)))) (ho : Off [p] W W6)
    (hown : w7.ownsRow 0 73 3 (.slice (some ⟨gg, 0, none⟩) (T + 1) cap) (T + 1) (didCells E.trace ++ [.string call, .string P1, .string P2])) (hg : (W6.alloc o).grownBy w7 G.tv.ownBlock) (hat : G.tv.ownBlock = some gg ∨ gg = W6.heap.size + 1) :
    ∃ G', RefS A w p L (w7.setCell ⟨p, 7, none⟩ (.slice (some ⟨gg, 0, none⟩) (T + 1) cap)) G' { E with clock := E.clock + 1, trace := E.trace ++ [⟨call, P1, P2⟩] } := by
  have hpl : some p ≠ G.tv.ownBlock := own_ne hS.1.trace hS.1.blk (by decide)
  have hX : Off (p :: G.tv.ownBlock.toList) W w7 := ((ho.mono (fun x _ h => by simp at h; subst h; exact List.mem_cons_self ..)).alloc o).grown hg (fun k hk => .inr (List.mem_cons_of_mem _ (by rw [hk]; simp)))
  have hO : Only W (p :: G.tv.ownBlock.toList) [69, 73] := fun b hb => by
    rcases List.mem_cons.1 hb with rfl | hb
    · exact ⟨_, by simp, _, hS.1.blk⟩
    obtain ⟨cs, hB⟩ := own_blks hS.1.trace b hb; exact ⟨_, by simp, _, hB⟩
  have hB7 := (hB.alloc o).grown hg hpl; have hP : RefP w7 { G with tv := .slice (some ⟨gg, 0, none⟩) (T + 1) cap } { E with clock := E.clock + 1, trace := E.trace ++ [⟨call, P1, P2⟩] } :=
    ⟨hO.row hX hS.1.names (by decide), hO.row hX hS.1.safe (by decide), hO.row hX hS.1.later (by decide), fun i v l h1 h2 => hO.row hX (hS.1.laters i v l h1 h2) (by decide), hO.row hX hS.1.inos (by decide), (by
      have e : didCells (E.trace ++ [⟨call, P1, P2⟩]) = didCells E.trace ++ [.string call, .string P1, .string P2] := by simp [didCells]
      dsimp only
      rw [e, List.length_append, hT]; exact hown), (hO.wea hX hS.1 (by decide)).1, (hO.wea hX hS.1 (by decide)).2⟩
  refine ⟨{ G with tv := .slice (some ⟨gg, 0, none⟩) (T + 1) cap }, (hP.self hB7 ((Off.refl [p] w7).setCell (p := ⟨p, 7, none⟩) (.inr (by simp)) _)).with ?_, ?_, fun b hb => ?_⟩
  · have := hB7.set_ 7 (.slice (some ⟨gg, 0, none⟩) (T + 1) cap)
    unfold refCells at this ⊢; subst hT; subst hcl
    simpa using this
  · refine (hS.2.1.trans hX (fun x hx hm => ?_)).setCell (p := ⟨p, 7, none⟩) (.inr (List.mem_cons_self ..)) _
    rcases List.mem_cons.1 hm with rfl | hm
    · exact List.mem_cons_self ..
    rcases hS.2.2 x (mem_blocks.2 (.inr (.inr (.inr (.inr (.inr (.inl hm))))))) with h | h
    · exact List.mem_cons_of_mem _ h
    omega
  have hsz := hS.2.1.size; have hs6 := ho.size
  rcases mem_blocks.1 hb with hb | hb | hb | hb | hb | hb | hb
  · exact hS.2.2 b (mem_blocks.2 (.inl hb))
  · exact hS.2.2 b (mem_blocks.2 (.inr (.inl hb)))
  · exact hS.2.2 b (mem_blocks.2 (.inr (.inr (.inl hb))))
  · exact hS.2.2 b (mem_blocks.2 (.inr (.inr (.inr (.inl hb)))))
  · exact hS.2.2 b (mem_blocks.2 (.inr (.inr (.inr (.inr (.inl hb))))))
  · simp [Value.ownBlock] at hb
    subst hb
    rcases hat with h | h
    · exact hS.2.2 _ (mem_blocks.2 (.inr (.inr (.inr (.inr (.inr (.inl (by rw [h]; simp))))))))
    exact .inr (by omega)
  exact hS.2.2 b (mem_blocks.2 (.inr (.inr (.inr (.inr (.inr (.inr hb)))))))
set_option maxRecDepth 100000 in
set_option maxHeartbeats 16000000 in
theorem r7step_any (p n C : Nat) (G : RGeo) (D : PDisk) (call P1 P2 : ByteArray) (w : World) (h : RefM A w p G (norm D)) (hk : Ref0 C D n) (hA : ArgsX A w p G.blocks D) :
    Calls Tryz.prog 100 #[.pointer (some ⟨p, 0, none⟩), .string call, .string P1, .string P2] w fun e w' =>
      e = .returned (.tuple #[.int .i64 (D.edited.step call P1 P2).2.1, .bool (D.edited.step call P1 P2).1]) ∧ RefTo A w p G.blocks w' (norm (D.edited.step call P1 P2).2.2) := by
  obtain ⟨i1, hi1, hy0, hy1, hy2⟩ := info_parts infoDid; have H := Lib.hid h; have HK := Lib.hid hk; have HF0 := Lib.hid (hk.fine.facts (by have := hk.le; omega)); obtain ⟨T, hT⟩ : ∃ T, D.trace.length = T := ⟨_, rfl⟩
  have HT := Lib.hid hT; have hTb : T ≤ 100000000 := by rw [← hT]; exact HF0.out.tl
  obtain ⟨cl, hcl⟩ : ∃ cl, D.clock = cl := ⟨_, rfl⟩
  have HCL := Lib.hid hcl; have hclb : cl ≤ 100000000 := by rw [← hcl]; exact HF0.out.cl
  obtain ⟨pe, ce, hev, hNm, -⟩ := (hA w (Off.refl _ _)).2; have HA := Lib.hid hA; obtain ⟨N, hN⟩ : ∃ N, D.edits.length = N := ⟨_, rfl⟩
  rw [hN] at hev hNm; unfold maxLen at hNm; have HNN := Lib.hid hN; have HEV := Lib.hid hev; have hc0 := h.blk.cell; have hf0 := h.blk.frozen; have hl0 := h.blk.lt; have hn6 : refCells A G (norm D) = #[G.nv, G.sv, G.lv, G.iv, .bool D.off, .int .i64 T, .int .i64 cl, G.tv, A.fv, .slice pe N ce] := by
    rw [← hT, ← hcl, ← hev]; rfl
  rw [hn6] at hc0
  cases ho : D.off
  case true =>
    rw [ho] at hc0; have HS := Lib.hid (show D.edited.step call P1 P2 = (false, 75, D) by rw [edited_off ho]; unfold PDisk.step; rw [ho]; rfl); clear h hk hT hcl hN hev ho hn6 hA
    go_enter Tryz.func100, Tryz.ntmps100
    go_wp2_with fail
    go_ret2
    rw [HS.out]; exact ⟨rfl, RefTo.refl H.out⟩
  case false =>
    rw [ho] at hc0; have HOF := Lib.hid ho; clear h hk hT hcl hN hev ho hn6 hA
    go_enter Tryz.func100, Tryz.ntmps100
    go_wp2_with fail
    have HST := Lib.hid (show RefTo A w p G.blocks w (norm (D.editTo 0)) from by
      have : D.editTo 0 = D := by unfold PDisk.editTo; simp
      rw [this]; exact RefTo.refl H.out)
    clear hc0 hf0 hl0
    go_loopw [11] (fun x wr => ∃ i : Nat, x = .int .i64 i ∧ i ≤ N ∧ Hid (RefTo A w p G.blocks wr (norm (D.editTo i)))) (fun x _ => N - (intOf x).toNat)
    case atStart => exact ⟨0, rfl, by omega, HST⟩
    case round =>
      clear HST; obtain ⟨i, rfl, hi, HI⟩ := hrel; obtain ⟨G1, hM1, ho1, hp1⟩ := HI.out; obtain ⟨k1, k2, k3, k4, k5, -, -⟩ := edits_keep (D.trace.length : Int) (D.edits.take i) D; have k1 : (D.editTo i).trace = D.trace := k1
      have k2 : (D.editTo i).off = D.off := k2
      have k3 : (D.editTo i).fates = D.fates := k3
      have k4 : (D.editTo i).clock = D.clock := k4
      have k5 : (D.editTo i).edits = D.edits := k5
      have HM1 := Lib.hid hM1; have HO1 := Lib.hid (And.intro ho1 hp1); have hn6 : refCells A G1 (norm (D.editTo i)) = #[G1.nv, G1.sv, G1.lv, G1.iv, .bool false, .int .i64 T, .int .i64 cl, G1.tv, A.fv, .slice pe N ce] := by
        unfold refCells norm; dsimp only; rw [k1, k2, k4, HEV.out, HT.out, HCL.out, HOF.out]
      have HN6 := Lib.hid hn6; have hc0 := hM1.blk.cell; have hl0 := hM1.blk.lt; rw [hn6] at hc0
      by_cases hlt : i < N
      · have hil : i < D.edits.length := by rw [HNN.out]; exact hlt
        have hNX := editTo_next hil; have hOK := HK.out.editTo i; have hSL := HK.out.slim.editTo i; obtain ⟨pe', ce', hv, -, hER⟩ := (HA.out wr ho1).2; rw [HEV.out, HNN.out] at hv; obtain ⟨rfl, rfl⟩ : pe = pe' ∧ ce = ce' := by simpa using hv
        obtain ⟨a, rfl, hab, hn⟩ := hER (fun e => by rw [e] at hil; simp at hil); obtain ⟨u, hu, hcs⟩ := hn i _ (List.getElem?_eq_getElem hil); have hem : D.edits[i] ∈ D.edits := List.getElem_mem hil
        have hfit := HK.out.rd.fit _ hem; have hval := HK.out.val hem; generalize D.edits[i] = e at hNX hu hcs hfit hval; rw [HT.out] at hNX; have HNX := Lib.hid hNX; have HED := Lib.hid (fun (uv : Value) (W : World) (ho : Off [] wr W) (hV : ArgV W uv e.value) => r7edit_any p (n + C) G1 (D.editTo i) e uv W (hM1.off_nil ho) hOK hSL (by have := HK.out.le; omega) hV hfit.1 (by omega) hfit.2)
        have HU := Lib.hid hu; obtain ⟨uq, ud, rfl, -⟩ := hu; obtain ⟨un, hun⟩ : ∃ un, e.value.length = un := ⟨_, rfl⟩
        rw [hun] at hcs HU; have c0 := hcs.at_; have c1 := hcs.path; have c2 := hcs.value; have hinn : (i : Int) < N := by omega
        have hab2 : (a.add (i * 3)).block < wr.heap.size := by rw [add_block]; exact hab
        clear hv hn hcs hER hNX hOK hSL hun hil k1 k2 k3 k4 k5 hM1 ho1 hp1 hem hfit hval hn6 HI
        by_cases hq : e.at_ = T
        · have hq1 : (e.at_ == (T : Int)) = true := by rw [hq]; simp
          have HNX := Lib.hid (show D.editTo (i + 1) = (D.editTo i).edit e by rw [HNX.out, if_pos hq]); clear hq
          go_wp2_with fail
          refine (HED.out _ _ (Off.refl _ _) HU.out).mono ?_
          rintro e' w5 ⟨rfl, hT5⟩; have HT5 := Lib.hid hT5; clear hT5 hc0 c0 c1 c2
          go_wp2_with fail
          refine ⟨⟨i + 1, by congr 1, by omega, Lib.hid ?_⟩, by simp only [intOf]; omega⟩
          rw [HNX.out]; exact RefTo.next HO1.out.1 HO1.out.2 HT5.out
        have hq1 : (e.at_ == (T : Int)) = false := beq_eq_false_iff_ne.2 hq
        have HNX := Lib.hid (show D.editTo (i + 1) = D.editTo i by rw [HNX.out, if_neg hq]); clear hq
        go_wp2_with fail
        refine ⟨⟨i + 1, by congr 1, by omega, Lib.hid ?_⟩, by simp only [intOf]; omega⟩
        rw [HNX.out]; exact ⟨G1, HM1.out, HO1.out.1, HO1.out.2⟩
      obtain rfl : N = i := by omega
      have HEDT := Lib.hid (show D.edited = D.editTo N by rw [edited_eq HOF.out, HNN.out]); have HFA := Lib.hid ((HK.out.editTo N).facts (by have := HK.out.le; omega)); obtain ⟨E0, hE0⟩ : ∃ E0, D.editTo N = E0 := ⟨_, rfl⟩
      rw [hE0] at HM1 HEDT HFA k1 k2 k3 k4 HN6; have HT0 := Lib.hid (show (norm E0).trace.length = T by show E0.trace.length = T; rw [k1]; exact HT.out); have HC0 := Lib.hid (show (norm E0).clock = cl by show E0.clock = cl; rw [k4]; exact HCL.out); have HOF0 := Lib.hid (show E0.off = false by rw [k2]; exact HOF.out); have HF30 := Lib.hid (show E0.fates = D.fates from k3)
      obtain ⟨pt, ct, htv⟩ := row_len HM1.out.trace; rw [HT0.out] at htv; have HTV := Lib.hid htv; have hf0 := HM1.out.blk.frozen; clear hE0 k1 k2 k3 k4 k5 hM1 ho1 hp1 htv HI hn6
      go_upto_region 11 with fail
      refine code_gen (fun W => Blk W p 69 (((refCells A G1 (norm E0)).setIfInBounds 5 (.int .i64 ((T : Int) + 1))).setIfInBounds 6 (.int .i64 ((cl : Int) + 1))) ∧ Off [p] wr W)
        ⟨(HM1.out.blk.set_ 5 _).set_ 6 _, ((Off.refl [p] wr).setCell (.inr (by simp)) _).setCell (.inr (by simp)) _⟩ ?_
      clear hc0 hf0 hl0; rintro W6 ⟨hB6, ho6⟩; have HB6 := Lib.hid hB6; have HO6 := Lib.hid ho6; have hc0 := hB6.cell; have hf0 := hB6.frozen; have hl0 := hB6.lt; rw [HN6.out] at hc0; simp only [List.setIfInBounds_toArray, List.set_cons_zero, List.set_cons_succ] at hc0; rw [HTV.out] at hc0
      have hpl : some p ≠ (Value.slice pt T ct).ownBlock := by rw [← HTV.out]; exact own_ne HM1.out.trace HM1.out.blk (by decide)
      have HPL := Lib.hid hpl; have hw6 : (W6.alloc (.cells #[.string call, .string P1, .string P2] 73)).ownsRow 0 73 3 (.slice pt T ct) T (didCells (norm E0).trace) := by
        have := own_offk (k := [p]) HM1.out.trace (ho6.alloc (.cells #[.string call, .string P1, .string P2] 73)) (fun b hb h => by
          simp at h; subst h
          exact own_ne HM1.out.trace HM1.out.blk (by decide) (by have : G1.tv.ownBlock = some b := (by simpa using hb); exact this.symm))
        rw [HTV.out, HT0.out] at this; exact this
      have HW6 := Lib.hid hw6; clear hB6 ho6 hpl hw6
      go_upto_region 12 with (at_builtin; refine wpList_append_lies _ rfl _ _ 67 rfl 0 73 i1 _ 3 48 Tryz.underlying67 hi1 hy0 hy1 hy2 rfl (by decide) _ _ _ rfl HW6.out ⟨W6.heap.size, 0, none⟩ 1 1 [_, _, _] rfl rfl (cell_three_at (Blk.new W6 _ _)) (by simp [Value.oneCell']) (by omega) (by unfold maxLen; omega) (by omega) (by simp) (W6.heap.size + 1) (by simp) ?_; intro gg cap7 w7 hown7 hgrow7 hat7 hlt7; have hB7 := (HB6.out.alloc (.cells #[.string call, .string P1, .string P2] 73)).grown hgrow7 HPL.out; have hc7 := hB7.cell; have hf7 := hB7.frozen; rw [HN6.out] at hc7)
      obtain ⟨E, hE⟩ : ∃ E : PDisk, ({ E0 with clock := E0.clock + 1, trace := E0.trace ++ [⟨call, P1, P2⟩] } : PDisk) = E := ⟨_, rfl⟩
      refine code_gen (fun W => ∃ G', RefS A w p G.blocks W G' (norm E)) (by
        rw [← hE]; exact step_mid7 (W := wr) ⟨HM1.out, HO1.out⟩ HT0.out HC0.out HB6.out HO6.out hown7 (by rw [HTV.out]; exact hgrow7) (by rw [HTV.out]; exact hat7)) ?_
      clear hc0 hf0 hl0 hown7 hgrow7 hat7 hlt7 hB7 hc7 hf7; rintro W8 ⟨G8, hS8⟩; have HS8 := Lib.hid hS8; have HSTEP := Lib.hid (show D.edited.step call P1 P2 = match E.fates.find? (fun f => decide (f.at_ = (T : Int))) with
          | none => (false, 0, E)
          | some f => if f.what = 3 then (false, 75, E.crash f) else if f.what = 1 then (false, 70, E) else (decide (f.what = 2), 0, E) from by
          have h0 : ¬ E0.off = true := by rw [HOF0.out]; decide
          have h1 : E0.trace.length = T := HT0.out
          rw [HEDT.out, ← hE]; unfold PDisk.step; rw [if_neg h0, h1]
          rfl)
      have HIL := Lib.hid (show (norm E).inos.length ≤ 1000000000 by rw [← hE]; exact Nat.le_trans HFA.out.il (by decide)); have HFL := Lib.hid (show E.fates.length ≤ 5000000000000 by rw [← hE]; exact HFA.out.fl); have HLL := Lib.hid (show (norm E).later.length ≤ 1000000000 by rw [← hE]; exact Nat.le_trans HFA.out.ll (by decide)); have hEF : E.fates = D.fates := by rw [← hE]; exact HF30.out
      obtain ⟨pf, cf, hfv, hfc⟩ := (HA.out W8 hS8.2.1).1; rw [← hEF] at hfv hfc; obtain ⟨nf, hnf⟩ : ∃ nf, E.fates.length = nf := ⟨_, rfl⟩
      rw [hnf] at hfv; have HNF := Lib.hid hnf; have hnb : nf ≤ 5000000000000 := by rw [← hnf]; exact HFL.out
      have HFV := Lib.hid hfv; have HFC := Lib.hid hfc; clear hE hS8 hfv hfc hnf hEF
      go_wp2_with fail
      go_loopw [12] (fun x wq => ∃ i : Nat, x = .int .i64 i ∧ i ≤ nf ∧ (∀ (j : Nat) (g : FateP), j < i → E.fates[j]? = some g → (fun f : FateP => decide (f.at_ = (T : Int))) g = false) ∧ Off [] W8 wq) (fun x _ => nf - (intOf x).toNat)
      case atStart => exact ⟨0, rfl, by omega, fun j _ h => absurd h (by omega), Off.refl _ _⟩
      case round =>
        obtain ⟨k, rfl, hkn, hno, ho⟩ := hrel; have HNO := Lib.hid hno; have hS := HS8.out.off ho; have HS := Lib.hid hS; have hc0 := hS.1.blk.cell; have hl0 := hS.1.blk.lt; unfold refCells at hc0; rw [HFV.out] at hc0
        by_cases hlt2 : k < nf
        · obtain ⟨f, hfk⟩ : ∃ f, E.fates[k]? = some f := ⟨_, List.getElem?_eq_getElem (by rw [HNF.out]; exact hlt2)⟩
          obtain ⟨a, rfl, hab, hcs⟩ := (HFC.out.off ho).get hfk; have c0 := hcs.at_; have c1 := hcs.what; have c2 := hcs.keep; have c3 := hcs.torn; have hab2 : (a.add (k * 4)).block < wr.heap.size := by rw [add_block]; exact hab
          have HFK := Lib.hid hfk; have hkk : (k : Int) < nf := by omega
          have HO := Lib.hid ho; clear hcs hfk hno hS ho HFC
          by_cases hq : f.at_ = T
          · have HFD := Lib.hid (find_hit7 HNO.out HFK.out (by simpa using hq))
            have HS0 := Lib.hid (show D.edited.step call P1 P2 = if f.what = 3 then (false, 75, E.crash f) else if f.what = 1 then (false, 70, E) else (decide (f.what = 2), 0, E) by rw [HSTEP.out, HFD.out]); have hq1 : (f.at_ == (T : Int)) = true := by rw [hq]; simp
            clear hq
            by_cases h3 : f.what = 3
            · have HS1 := Lib.hid (show D.edited.step call P1 P2 = (false, 75, E.crash f) by rw [HS0.out, if_pos h3])
              have hq3 : (f.what == 3) = true := by rw [h3]; rfl
              clear HS0 h3
              go_wp2_with fail
              refine (r7crash_any p G8 (norm E) f wr HS.out.1 HIL.out HLL.out).mono ?_
              rintro e w9 ⟨rfl, hT⟩; clear hc0 hl0 c0 c1 c2 c3 hq3
              go_wp2_with fail
              go_ret2
              rw [HS1.out]; refine ⟨rfl, ?_⟩
              show RefTo A w p G.blocks w9 (norm (E.crash f))
              rw [norm_crash]; exact RefTo.next HS.out.2.1 HS.out.2.2 hT
            have hq3 : (f.what == 3) = false := beq_eq_false_iff_ne.2 h3
            by_cases h4 : f.what = 1
            · have HS1 := Lib.hid (show D.edited.step call P1 P2 = (false, 70, E) by rw [HS0.out, if_neg h3, if_pos h4])
              have hq4 : (f.what == 1) = true := by rw [h4]; rfl
              clear HS0 h3 h4
              go_wp2_with fail
              go_ret2
              rw [HS1.out]; exact ⟨rfl, HS.out.to⟩
            have HS1 := Lib.hid (show D.edited.step call P1 P2 = (decide (f.what = 2), 0, E) by rw [HS0.out, if_neg h3, if_neg h4]); have hq4 : (f.what == 1) = false := beq_eq_false_iff_ne.2 h4
            have hq5 : (f.what == 2) = decide (f.what = 2) := by
              by_cases h : f.what = 2
              · rw [decide_eq_true h, h]; rfl
              rw [decide_eq_false h]; exact beq_eq_false_iff_ne.2 h
            clear HS0 h3 h4
            go_wp2_with fail
            go_quiet (fail)
            go_wp2_with fail
            go_ret2
            rw [HS1.out]; exact ⟨rfl, (HS.out.off ((Off.refl [] wr).drewN _)).to⟩
          have hq1 : (f.at_ == (T : Int)) = false := beq_eq_false_iff_ne.2 hq
          have HQ := Lib.hid hq; clear hq
          go_wp2_with fail
          refine ⟨⟨k + 1, by congr 1, by omega, fun j g hj hg => ?_, HO.out⟩, by simp only [intOf]; omega⟩
          by_cases hjk : j = k
          · subst hjk
            rw [HFK.out] at hg; injection hg with hg
            subst hg
            simpa using HQ.out
          exact HNO.out j g (by omega) hg
        obtain rfl : k = nf := by omega
        have HS1 := Lib.hid (show D.edited.step call P1 P2 = (false, 0, E) by
          rw [HSTEP.out, find_no7 (P := fun f : FateP => decide (f.at_ = (T : Int))) (fun j g hg => HNO.out j g (by rw [← HNF.out]; exact (List.getElem?_eq_some_iff.1 hg).1) hg)])
        clear hno ho hS
        go_wp2_with fail
        go_ret2
        rw [HS1.out]; exact ⟨rfl, HS.out.to⟩
end
section
open Go.RowKit Go.Op Go.Maps
variable {A : RArg}
def FreeMv (E : PDisk) : Prop := ∀ p q, firstE (E.mvE p q) = 0 → Free p q E.names
theorem Ref0.step_free {C n : Nat} {D : PDisk} (h : Ref0 C D n) (c p q : ByteArray) : FreeMv (D.edited.step c p q).2.2 := fun _ _ he =>
  (h.stepped c p q).1.good.tree.names.mv (h.stepped c p q).1.ok (h.stepped c p q).1.good.names he
theorem RefTo.own {A' : RArg} {w W w1 w2 : World} {p : Nat} {G : RGeo} {E E1 : PDisk} {k : List Nat} (h : RefM A w p G E) (hW : Off [] w W) (hT : RefTo A' W p G.blocks w1 E1) (ho : Off k w1 w2) (hk : ∀ b ∈ k, w.heap.size ≤ b ∧ b < W.heap.size) : RefTo A' w p G.blocks w2 E1 := by
  obtain ⟨G1, h1, h2, h3⟩ := hT; have hp := h.blk.lt; have ho1 : Off (p :: G.blocks) w w1 := (hW.mono (fun _ _ h => by simp at h)).trans h2 (fun _ _ h => h)
  have ho2 : Off (p :: G.blocks) w w2 := ho1.trans ho (fun x hx hm => by have := (hk x hm).1; omega)
  refine ⟨G1, h1.off ho (fun hm => by have := (hk p hm).1; omega) (fun b hb hm => ?_), ho2, fun b hb => ?_⟩
  · have h4 := hk b hm
    rcases h3 b hb with h5 | h5
    · have := h.lt h5; omega
    omega
  rcases h3 b hb with h | h
  · exact .inl h
  exact .inr (Nat.le_trans hW.size h)
theorem RefTo.step {w w1 w2 : World} {p : Nat} {L : List Nat} {E : PDisk} (h : RefTo A w p L w1 E) (ho : Off [] w1 w2) : RefTo A w p L w2 E := by
  obtain ⟨G1, h1, h2, h3⟩ := h; exact ⟨G1, h1.off_nil ho, h2.trans ho (fun _ _ h => by cases h), h3⟩
theorem op_fin {w w1 w' : World} {p : Nat} {G G1 : RGeo} {B R : Int × PDisk} {c : Int} {F' : PDisk} (ho : Off (p :: G.blocks) w w1) (hp : ∀ b ∈ G1.blocks, b ∈ G.blocks ∨ w.heap.size ≤ b) (hV : R = (B.1, norm B.2)) (hR : R = (c, F')) (hT : RefTo A w1 p G1.blocks w' F') :
    (Ending.returned (.int .i64 c)) = .returned (.int .i64 B.1) ∧ RefTo A w p G.blocks w' (norm B.2) := by
  rw [hV] at hR; injection hR with h1 h2
  subst h1; subst h2; exact ⟨rfl, RefTo.next ho hp hT⟩
set_option maxRecDepth 100000 in
set_option maxHeartbeats 16000000 in
theorem r7flush_any (p n C : Nat) (G : RGeo) (D : PDisk)  (w : World) (h : RefM A w p G (norm D)) (hk : Ref0 C D n) (hA : ArgsX A w p G.blocks D)  :
    Calls Tryz.prog 68 #[.pointer (some ⟨p, 0, none⟩)] w fun e w' => e = .returned (.int .i64 (D.edited.flush).1) ∧ RefTo A w p G.blocks w' (norm (D.edited.flush).2) := by
  have HST := Lib.hid (r7step_any p n C G D ⟨#[70, 108, 117, 115, 104]⟩ ⟨#[]⟩ ⟨#[]⟩ w h hk hA); have HK := Lib.hid (hk.stepped ⟨#[70, 108, 117, 115, 104]⟩ ⟨#[]⟩ ⟨#[]⟩); have HS := Lib.hid (show D.edited.flush = match D.edited.step ⟨#[70, 108, 117, 115, 104]⟩ ⟨#[]⟩ ⟨#[]⟩ with | (full, e, E) => if e ≠ 0 then (e, E) else (0, E.flush_) from rfl)
  have HFA := Lib.hid (HK.out.1.facts (by have := hk.le; omega)); have HGF := Lib.hid (hk.step_free ⟨#[70, 108, 117, 115, 104]⟩ ⟨#[]⟩ ⟨#[]⟩); clear h hk hA; generalize D.edited.step ⟨#[70, 108, 117, 115, 104]⟩ ⟨#[]⟩ ⟨#[]⟩ = st at HST HS HK HFA HGF; obtain ⟨full, er, E⟩ := st; have HS := Lib.hid (show D.edited.flush = if er ≠ 0 then (er, E) else (0, E.flush_) from HS.out)
  have HFA := Lib.hid (show RFacts (norm E) from HFA.out); have HGF := Lib.hid (show FreeMv E from HGF.out); generalize D.edited.flush = B at HS ⊢
  go_enter Tryz.func68, Tryz.ntmps68
  go_wp2_with fail
  refine HST.out.mono ?_
  rintro e w1 ⟨rfl, hT⟩; have HT := Lib.hid hT; clear hT HST
  by_cases h0 : er = 0
  case neg =>
    have HS2 := Lib.hid (show B = (er, E) by rw [HS.out, if_pos h0]); have hne : (er == 0) = false := beq_eq_false_iff_ne.2 h0
    clear h0
    go_wp2_with fail
    go_ret
    rw [HS2.out]; exact ⟨rfl, HT.out⟩
  subst h0; have HS2 := Lib.hid (show B = (0, E.flush_) by rw [HS.out]; simp); have HL := Lib.hid (show ((0 : Int), ({ norm E with safe := (norm E).names, later := [] } : PDisk)) = (B.1, norm B.2) by rw [HS2.out]; rw [norm_flush]); obtain ⟨G1, h1, ho1, hp1⟩ := HT.out; have HOP := Lib.hid (And.intro ho1 hp1); clear HS HS2 HT HK HGF ho1 hp1; generalize norm E = F at h1 HFA HL; have H1 := Lib.hid h1
  have HNK := Lib.hid HFA.out.nok; have hc := h1.blk.cell; have hf := h1.blk.frozen; obtain ⟨pn, cn, hnv, -, -, -⟩ := own_at h1.names; obtain ⟨N, hN⟩ : ∃ N, F.names.length = N := ⟨_, rfl⟩
  rw [hN] at hnv; have HNV := Lib.hid hnv; unfold refCells at hc; rw [hnv] at hc; clear h1 hnv hN
  go_wp2_with fail
  go_ret
  have s1 := RefS.refl H1.out; have s2 := s1.putSafe s1.1.names (fun b hb => .inl (mem_blocks.2 (.inl hb))); have s3 := s2.noLater; rw [HNV.out] at s3; exact op_fin HOP.out.1 HOP.out.2 HL.out rfl s3.to
set_option maxRecDepth 100000 in
set_option maxHeartbeats 16000000 in
theorem r7sync_any (p n C : Nat) (G : RGeo) (D : PDisk) (path : ByteArray) (w : World) (h : RefM A w p G (norm D)) (hk : Ref0 C D n) (hA : ArgsX A w p G.blocks D) (hp : path.size ≤ 1048576) :
    Calls Tryz.prog 66 #[.pointer (some ⟨p, 0, none⟩), .string path] w fun e w' => e = .returned (.int .i64 (D.edited.sync path).1) ∧ RefTo A w p G.blocks w' (norm (D.edited.sync path).2) := by
  have HST := Lib.hid (r7step_any p n C G D ⟨#[83, 121, 110, 99]⟩ path ⟨#[]⟩ w h hk hA); have HK := Lib.hid (hk.stepped ⟨#[83, 121, 110, 99]⟩ path ⟨#[]⟩); have HS := Lib.hid (show D.edited.sync path = match D.edited.step ⟨#[83, 121, 110, 99]⟩ path ⟨#[]⟩ with | (full, e, E) => if e ≠ 0 then (e, E) else E.sync_ path from rfl); have HFA := Lib.hid (HK.out.1.facts (by have := hk.le; omega))
  have HGF := Lib.hid (hk.step_free ⟨#[83, 121, 110, 99]⟩ path ⟨#[]⟩); clear h hk hA; generalize D.edited.step ⟨#[83, 121, 110, 99]⟩ path ⟨#[]⟩ = st at HST HS HK HFA HGF; obtain ⟨full, er, E⟩ := st; have HS := Lib.hid (show D.edited.sync path = if er ≠ 0 then (er, E) else E.sync_ path from HS.out); have HFA := Lib.hid (show RFacts (norm E) from HFA.out)
  have HGF := Lib.hid (show FreeMv E from HGF.out); generalize D.edited.sync path = B at HS ⊢
  go_enter Tryz.func66, Tryz.ntmps66
  go_wp2_with fail
  refine HST.out.mono ?_
  rintro e w1 ⟨rfl, hT⟩; have HT := Lib.hid hT; clear hT HST
  by_cases h0 : er = 0
  case neg =>
    have HS2 := Lib.hid (show B = (er, E) by rw [HS.out, if_pos h0]); have hne : (er == 0) = false := beq_eq_false_iff_ne.2 h0
    clear h0
    go_wp2_with fail
    go_ret
    rw [HS2.out]; exact ⟨rfl, HT.out⟩
  subst h0; have HS2 := Lib.hid (show B = E.sync_ path by rw [HS.out]; simp); have HL := Lib.hid (show (norm E).sync_ path = (B.1, norm B.2) by rw [HS2.out]; exact norm_sync HK.out.1.good.names path); obtain ⟨G1, h1, ho1, hp1⟩ := HT.out; have HOP := Lib.hid (And.intro ho1 hp1); clear HS HS2 HT HK HGF ho1 hp1; generalize norm E = F at h1 HFA HL; have H1 := Lib.hid h1
  have HNK := Lib.hid HFA.out.nok; obtain ⟨b1, hb1⟩ : ∃ b, okPath (str path) = b := ⟨_, rfl⟩
  have HPA := Lib.hid (fun W => rpath_v path W hp b1 hb1); have HFI := Lib.hid (fun (W : World) (ho : Off [] w1 W) => rfind_any p G1 F path W (h1.off_nil ho)); have HNO := Lib.hid (show PDisk.no path = (!b1, 11) by unfold PDisk.no; rw [hb1]); clear hb1 h1
  go_wp2_with fail
  refine (HPA.out _).mono ?_
  rintro e w2 ⟨rfl, ho2⟩; have HO2 := Lib.hid ho2; clear ho2
  cases b1
  · have HR := Lib.hid (show F.sync_ path = (11, F) by unfold PDisk.sync_; rw [HNO.out]; rfl)
    go_wp2_with fail
    go_ret
    exact op_fin HOP.out.1 HOP.out.2 HL.out HR.out (RefTo.off H1.out HO2.out)
  go_wp2_with fail
  refine (HFI.out _ HO2.out).mono ?_
  rintro e w3 ⟨rfl, ho3⟩; have HO3 := Lib.hid (HO2.out.trans_nil ho3); clear ho3
  rcases first_cases HNK.out path with ⟨ha, hi⟩ | ⟨i, j, m, ha, hi, hx1, hx2, hx3⟩
  · have HR := Lib.hid (show F.sync_ path = (74, F) by unfold PDisk.sync_ PDisk.gone; rw [HNO.out, ha]; rfl)
    rw [hi]; clear ha hi
    go_wp2_with fail
    go_ret
    exact op_fin HOP.out.1 HOP.out.2 HL.out HR.out (RefTo.off H1.out HO3.out)
  have HR := Lib.hid (show F.sync_ path = (0, { F with inos := F.inos.set j { m with dirty := false } }) by
    unfold PDisk.sync_ PDisk.gone; rw [HNO.out, ha, hx2]
    rfl)
  rw [hi]; have hM := H1.out.off_nil HO3.out; have hc := hM.blk.cell; have hlp := hM.blk.lt; unfold refCells at hc; obtain ⟨g1, c1, e1, hl1, hc1, hm1, hg1, -, hn0, hn1⟩ := hM.ent hx1; obtain ⟨g2, c2, e2, hl2, hc2, hm2, hg2, -, k0, k1, k2, k3, k4⟩ := hM.ino hx3; rw [e1, e2] at hc; have HX := Lib.hid hx1; have HIN := Lib.hid hx3; have HE12 := Lib.hid (And.intro e1 e2)
  have HIL := Lib.hid HFA.out.il; obtain ⟨n1, hn1'⟩ : ∃ n, F.names.length = n := ⟨_, rfl⟩
  obtain ⟨n2, hn2'⟩ : ∃ n, F.inos.length = n := ⟨_, rfl⟩
  rw [hn1', hn2'] at hc; rw [hn1'] at hl1 hc1; rw [hn2'] at hl2 hc2; have HN2 := Lib.hid hn2'; have HN1 := Lib.hid hn1'; unfold maxLen at hm1 hm2; have hwr : IntKind.i64.wrap (((j + 1 : Nat) : Int) - 1) = (j : Int) := by rw [show ((j + 1 : Nat) : Int) - 1 = j by omega]; exact IntWalk.i64_in _ (by omega)
  dsimp only at hn1
  clear hM e1 e2 ha hi hx1 hx2 hx3 hn1' hn2'
  go_wp2_with fail
  go_region
  go_wp2_with fail
  refine code_gen (fun W => Blk W w3.heap.size 125 #[.int .i64 m.node.kind, .int .i64 m.node.mode, .int .i64 m.time, .string m.node.data, .bool false] ∧ Off [] w3 W) ⟨(Blk.new w3 _ _).drew, ((Off.refl [] w3).alloc _).drew⟩ ?_
  clear hc k0 k1 k2 k3 k4 hn0 hn1; rintro W ⟨hbn, hoW⟩; have HO4 := Lib.hid (HO3.out.trans_nil hoW); have hcn := hbn.cell; have hln := hbn.lt; have hM := H1.out.off_nil HO4.out; have hc := hM.blk.cell; unfold refCells at hc; obtain ⟨g1', c1', e1, -, -, -, hg1', -, hn0, hn1⟩ := hM.ent HX.out; rw [HE12.out.1] at e1; obtain ⟨rfl, rfl⟩ : g1 = g1' ∧ c1 = c1' := by simpa using e1
  rw [HE12.out.1, HN1.out] at hc; have HSE := Lib.hid (fun (W' : World) (ho : Off [] W W') => r7set_any p j G1 F { m with dirty := false } W' (hM.off_nil ho) (by rw [HN2.out]; exact hl2) (by have := HIL.out; omega)); unfold inoVal at HSE; clear hbn hoW hM e1
  go_region_law ((go_simp; refine (HSE.out _ (Off.refl [] W).drew).mono ?_; rintro e w' ⟨rfl, hT⟩))
  all_goals go_wp2_with fail
  all_goals go_ret
  all_goals exact op_fin HOP.out.1 HOP.out.2 HL.out HR.out (RefTo.since (HO4.out.trans_nil (Off.refl [] W).drew) hT)
end
section
open Go.RowKit Go.Op Go.Maps
variable {A : RArg}
set_option maxRecDepth 100000 in
set_option maxHeartbeats 16000000 in
theorem r7write_any (p n C : Nat) (G : RGeo) (D : PDisk) (path data : ByteArray) (mode : Int) (w : World) (h : RefM A w p G (norm D)) (hk : Ref0 C D n) (hA : ArgsX A w p G.blocks D) (hp : path.size ≤ 1048576) :
    Calls Tryz.prog 65 #[.pointer (some ⟨p, 0, none⟩), .string path, .string data, .int .i64 mode] w fun e w' => e = .returned (.int .i64 (D.edited.write path data mode).1) ∧ RefTo A w p G.blocks w' (norm (D.edited.write path data mode).2) := by
  have HST := Lib.hid (r7step_any p n C G D ⟨#[87, 114, 105, 116, 101]⟩ path ⟨#[]⟩ w h hk hA); have HK := Lib.hid (hk.stepped ⟨#[87, 114, 105, 116, 101]⟩ path ⟨#[]⟩); have HS := Lib.hid (show D.edited.write path data mode = match D.edited.step ⟨#[87, 114, 105, 116, 101]⟩ path ⟨#[]⟩ with | (full, e, E) => if e ≠ 0 then (e, E) else E.write_ full path data mode from rfl)
  have HFA := Lib.hid (HK.out.1.facts (by have := hk.le; omega)); have HGF := Lib.hid (hk.step_free ⟨#[87, 114, 105, 116, 101]⟩ path ⟨#[]⟩); clear h hk hA; generalize D.edited.step ⟨#[87, 114, 105, 116, 101]⟩ path ⟨#[]⟩ = st at HST HS HK HFA HGF; obtain ⟨full, er, E⟩ := st
  have HS := Lib.hid (show D.edited.write path data mode = if er ≠ 0 then (er, E) else E.write_ full path data mode from HS.out); have HFA := Lib.hid (show RFacts (norm E) from HFA.out); have HGF := Lib.hid (show FreeMv E from HGF.out); generalize D.edited.write path data mode = B at HS ⊢
  go_enter Tryz.func65, Tryz.ntmps65
  go_wp2_with fail
  refine HST.out.mono ?_
  rintro e w1 ⟨rfl, hT⟩; have HT := Lib.hid hT; clear hT HST
  by_cases h0 : er = 0
  case neg =>
    have HS2 := Lib.hid (show B = (er, E) by rw [HS.out, if_pos h0]); have hne : (er == 0) = false := beq_eq_false_iff_ne.2 h0
    clear h0
    go_wp2_with fail
    go_ret
    rw [HS2.out]; exact ⟨rfl, HT.out⟩
  subst h0; have HS2 := Lib.hid (show B = E.write_ full path data mode by rw [HS.out]; simp); have HL := Lib.hid (show rwrite (norm E) full path data mode = (B.1, norm B.2) by rw [HS2.out]; exact norm_write HK.out.1.ok.names HK.out.1.good.names full path data mode); obtain ⟨G1, h1, ho1, hp1⟩ := HT.out; have HOP := Lib.hid (And.intro ho1 hp1); clear HS HS2 HT HK HGF ho1 hp1
  generalize norm E = F at h1 HFA HL
  have H1 := Lib.hid h1; have HNK := Lib.hid HFA.out.nok; obtain ⟨q, hq⟩ : ∃ q, bs (parent (str path)) = q := ⟨_, rfl⟩
  obtain ⟨b1, hb1⟩ : ∃ b, okPath (str path) = b := ⟨_, rfl⟩
  obtain ⟨b3, hb3⟩ : ∃ b, F.dir q = b := ⟨_, rfl⟩
  have HPA := Lib.hid (fun W => rpath_v path W hp b1 hb1); have HPR := Lib.hid (fun W => rparent_v path W hp q hq); have HDI := Lib.hid (fun (W : World) (ho : Off [] w1 W) => hb3 ▸ r7dir_any p G1 F q W (h1.off_nil ho) HNK.out); have HFI := Lib.hid (fun (W : World) (ho : Off [] w1 W) => rfind_any p G1 F path W (h1.off_nil ho))
  obtain ⟨b2, hb2⟩ : ∃ b, (decide (65536 < data.size) || decide (mode < 0) || decide (511 < mode)) = b := ⟨_, rfl⟩
  have HB2 := Lib.hid hb2; have HNO := Lib.hid (show PDisk.no path = (!b1, 11) by unfold PDisk.no; rw [hb1]); have HPE := Lib.hid (show F.parentE path = (!b3, 62) by unfold PDisk.parentE; rw [hq, hb3])
  have HRN := Lib.hid (show ∀ (c : Int) (l : List (Bool × Int)), F.at_ path = none → firstE ([(!b1, 11), (b2, 2), (!b3, 62), (false, 73)] ++ [(full || decide (1000 ≤ F.names.length), 71)]) = c → c ≠ 0 → rwrite F full path data mode = (c, F) from fun c l ha hc h0 => by
    unfold rwrite rlay; rw [ha, HNO.out, hb2, HPE.out]; dsimp only; rw [hc, if_pos h0])
  have HRS := Lib.hid (show ∀ (c : Int) (o : Ino), F.at_ path = some o → firstE ([(!b1, 11), (b2, 2), (!b3, 62), (!decide (o.node.kind = 1), 73)] ++ [(full, 71)]) = c → c ≠ 0 → rwrite F full path data mode = (c, F) from fun c o ha hc h0 => by
    unfold rwrite; rw [ha, HNO.out, hb2, HPE.out]; dsimp only; rw [hc, if_pos h0])
  have HRB := Lib.hid (show ∀ (c : Int) (a2 a3 : Bool × Int), c ≠ 0 → (∀ k : List (Bool × Int), firstE ((!b1, 11) :: (b2, 2) :: (!b3, 62) :: k) = c) → rwrite F full path data mode = (c, F) from fun c a2 a3 h0 hc => by
    cases ha : F.at_ path with
    | none => exact HRN.out c [] ha (hc _) h0
    | some o => exact HRS.out c o ha (hc _) h0)
  clear hb1 hb3 hq h1
  go_wp2_with fail
  refine (HPA.out _).mono ?_
  rintro e w2 ⟨rfl, ho2⟩; have HO2 := Lib.hid ho2; clear ho2
  cases b1
  · have HR := Lib.hid (HRB.out 11 (false, 0) (false, 0) (by decide) (fun k => rfl))
    clear hb2
    go_wp2_with fail
    go_ret
    exact op_fin HOP.out.1 HOP.out.2 HL.out HR.out (RefTo.off H1.out HO2.out)
  cases b2
  case true =>
    have HR := Lib.hid (HRB.out 2 (false, 0) (false, 0) (by decide) (fun k => rfl))
    by_cases z1 : 65536 < data.size
    · have z1 : (65536 : Int) < data.size := by omega
      clear hb2
      go_wp2_with fail
      go_ret
      exact op_fin HOP.out.1 HOP.out.2 HL.out HR.out (RefTo.off H1.out HO2.out)
    by_cases z2 : mode < 0
    · have z1 : ¬ (65536 : Int) < data.size := by omega
      clear hb2
      go_wp2_with fail
      go_ret
      exact op_fin HOP.out.1 HOP.out.2 HL.out HR.out (RefTo.off H1.out HO2.out)
    have z3 : 511 < mode := by
      rw [decide_eq_false z1, decide_eq_false z2] at hb2
      simpa using hb2
    have z1 : ¬ (65536 : Int) < data.size := by omega
    clear hb2
    go_wp2_with fail
    go_ret
    exact op_fin HOP.out.1 HOP.out.2 HL.out HR.out (RefTo.off H1.out HO2.out)
  obtain ⟨z1, z2, z3⟩ : ¬ 65536 < data.size ∧ ¬ mode < 0 ∧ ¬ 511 < mode := by
    simp only [Bool.or_eq_false_iff, decide_eq_false_iff_not] at hb2
    exact ⟨hb2.1.1, hb2.1.2, hb2.2⟩
  have z1 : ¬ (65536 : Int) < data.size := by omega
  clear hb2
  go_wp2_with fail
  refine (HPR.out _).mono ?_
  rintro e w3 ⟨rfl, ho3⟩; have HO3 := Lib.hid (HO2.out.trans_nil ho3); clear ho3 z1 z2 z3
  go_wp2_with fail
  refine (HDI.out _ HO3.out).mono ?_
  rintro e w4 ⟨rfl, ho4⟩; have HO4 := Lib.hid (HO3.out.trans_nil ho4); clear ho4
  cases b3
  · have HR := Lib.hid (HRB.out 62 (false, 0) (false, 0) (by decide) (fun k => rfl))
    go_wp2_with fail
    go_ret
    exact op_fin HOP.out.1 HOP.out.2 HL.out HR.out (RefTo.off H1.out HO4.out)
  clear HRB
  go_wp2_with fail
  refine (HFI.out _ HO4.out).mono ?_
  rintro e w5 ⟨rfl, ho5⟩; have HO5 := Lib.hid (HO4.out.trans_nil ho5); clear ho5; have hM := H1.out.off_nil HO5.out; have hc := hM.blk.cell; have hlp := hM.blk.lt; unfold refCells at hc; obtain ⟨n1, hn1'⟩ : ∃ n, F.names.length = n := ⟨_, rfl⟩
  have HN1 := Lib.hid hn1'; have hnl : n1 ≤ 1000 := by rw [← hn1']; exact HFA.out.nl
  rcases first_cases HNK.out path with ⟨ha, hi⟩ | ⟨i, j, m, ha, hi, hx1, hx2, hx3⟩
  · rw [hi]
    have HAT := Lib.hid ha; obtain ⟨pl, cap, hv, hcap, hcm, -⟩ := own_at hM.names; rw [hn1'] at hv; have HV := Lib.hid hv; rw [hv] at hc; clear hM hv hcap hcm ha hi hn1'; obtain ⟨b5, hb5⟩ : ∃ b, (full || decide (1000 ≤ n1)) = b := ⟨_, rfl⟩
    have HB5 := Lib.hid hb5
    go_wp2_with fail
    go_quiet (fail)
    go_upto_region 13 with fail
    refine code_gen (fun W => Off [] w5 W) ((Off.refl [] w5).drewN _) ?_
    clear hc; rintro W5 hoW5; have HO5 := Lib.hid (HO5.out.trans_nil hoW5); have hM := H1.out.off_nil HO5.out; have hc := hM.blk.cell; have hlp := hM.blk.lt; unfold refCells at hc; rw [HV.out] at hc; clear hM hoW5
    cases b5
    · obtain ⟨hf0, hlt⟩ : full = false ∧ n1 < 1000 := by simpa using hb5
      subst hf0; have hltb : (n1 : Int) < 1000 := by omega
      have HR := Lib.hid (show rwrite F false path data mode = (0, rwith F path ⟨⟨⟨#[]⟩, 1, data, mode⟩, F.clock, true⟩) by
        unfold rwrite rlay; rw [HAT.out, HNO.out, HB2.out, HPE.out, HN1.out]; dsimp only; rw [if_neg (by rw [show (decide (1000 ≤ n1)) = false from decide_eq_false (by omega)]; decide)]
        rfl)
      clear hb5 hlt; have HWI := Lib.hid (fun (W : World) (ho : Off [] w1 W) => r7with_any p G1 F path ⟨⟨⟨#[]⟩, 1, data, mode⟩, F.clock, true⟩ W (H1.out.off_nil ho) (by have := HFA.out.il; omega) (by have := HFA.out.nl; omega) (by have := HFA.out.ll; omega) HFA.out.sz hp); unfold inoVal at HWI
      go_upto_region 16 with fail
      refine code_gen (fun W => Blk W W5.heap.size 125 #[.int .i64 1, .int .i64 mode, .int .i64 F.clock, .string data, .bool true] ∧ Off [] W5 W) ⟨Blk.new W5 _ _, (Off.refl [] W5).alloc _⟩ ?_
      clear hc; rintro W ⟨hbn, hoW⟩; have HO6 := Lib.hid (HO5.out.trans_nil hoW); have hcn := hbn.cell; clear hbn hoW
      go_wp2_with fail
      refine (HWI.out _ HO6.out).mono ?_
      rintro e w6 ⟨rfl, hT⟩; clear hcn
      go_wp2_with fail
      go_ret
      exact op_fin HOP.out.1 HOP.out.2 HL.out HR.out (RefTo.since HO6.out hT)
    have HR := Lib.hid (HRN.out 71 [] HAT.out (by rw [HN1.out, HB5.out]; rfl) (by decide))
    cases full
    · have hge : ¬ (n1 : Int) < 1000 := by
        have : 1000 ≤ n1 := by simpa using hb5
        omega
      clear hb5
      go_wp2_with fail
      go_ret
      exact op_fin HOP.out.1 HOP.out.2 HL.out HR.out (RefTo.off H1.out HO5.out)
    clear hb5
    go_wp2_with fail
    go_ret
    exact op_fin HOP.out.1 HOP.out.2 HL.out HR.out (RefTo.off H1.out HO5.out)
  rw [hi]; obtain ⟨g1, c1, e1, hl1, hc1, hm1, hg1, -, hn0, hn1⟩ := hM.ent hx1; obtain ⟨g2, c2, e2, hl2, hc2, hm2, hg2, -, k0, k1, k2, k3, k4⟩ := hM.ino hx3; rw [e1, e2] at hc; have HX := Lib.hid hx1; have HAT := Lib.hid ha; have HLK := Lib.hid hx2; have HE12 := Lib.hid (And.intro e1 e2); have HIL := Lib.hid HFA.out.il; obtain ⟨n2, hn2'⟩ : ∃ n, F.inos.length = n := ⟨_, rfl⟩
  rw [hn1', hn2'] at hc; rw [hn1'] at hl1 hc1; rw [hn2'] at hl2 hc2; have HN2 := Lib.hid hn2'; unfold maxLen at hm1 hm2; have hwr : IntKind.i64.wrap (((j + 1 : Nat) : Int) - 1) = (j : Int) := by rw [show ((j + 1 : Nat) : Int) - 1 = j by omega]; exact IntWalk.i64_in _ (by omega)
  dsimp only at hn1
  clear hM e1 e2 ha hi hx1 hx2 hx3 hn1' hn2'
  by_cases hk : m.node.kind = 1
  case neg =>
    have HR := Lib.hid (HRS.out 73 m HAT.out (by rw [decide_eq_false hk]; rfl) (by decide)); have hkb : (m.node.kind == 1) = false := beq_eq_false_iff_ne.2 hk
    clear hk
    go_wp2_with fail
    go_quiet (fail)
    go_wp2_with fail
    go_ret
    exact op_fin HOP.out.1 HOP.out.2 HL.out HR.out (RefTo.off H1.out (HO5.out.drewN _))
  have hkb : (m.node.kind == 1) = true := beq_iff_eq.2 hk
  have HK1 := Lib.hid hk; rw [hk] at k0; clear hk
  cases full
  case true =>
    have HR := Lib.hid (HRS.out 71 m HAT.out (by rw [decide_eq_true HK1.out]; rfl) (by decide))
    go_wp2_with fail
    go_quiet (fail)
    go_wp2_with fail
    go_ret
    exact op_fin HOP.out.1 HOP.out.2 HL.out HR.out (RefTo.off H1.out (HO5.out.drewN _))
  have HR := Lib.hid (show rwrite F false path data mode = (0, { F with inos := F.inos.set j ⟨⟨⟨#[]⟩, 1, data, mode⟩, F.clock, true⟩ }) by
    unfold rwrite; rw [HAT.out, HNO.out, HB2.out, HPE.out, HLK.out]; dsimp only; rw [decide_eq_true HK1.out]
    rfl)
  go_wp2_with fail
  go_quiet (fail)
  go_upto_region 13 with fail
  refine code_gen (fun W => Off [] w5 W) ((Off.refl [] w5).drewN _) ?_
  clear hc k0 k1 k2 k3 k4 hn0 hn1; rintro W5 hoW5; have HO5 := Lib.hid (HO5.out.trans_nil hoW5); have hM := H1.out.off_nil HO5.out; have hc := hM.blk.cell; have hlp := hM.blk.lt; unfold refCells at hc; clear hM hoW5
  go_upto_region 16 with fail
  refine code_gen (fun W => Blk W W5.heap.size 125 #[.int .i64 1, .int .i64 mode, .int .i64 F.clock, .string data, .bool true] ∧ Off [] W5 W) ⟨Blk.new W5 _ _, (Off.refl [] W5).alloc _⟩ ?_
  clear hc; rintro W ⟨hbn, hoW⟩; have HO6 := Lib.hid (HO5.out.trans_nil hoW); have hcn := hbn.cell; have hln := hbn.lt; have hM := H1.out.off_nil HO6.out; have hc := hM.blk.cell; unfold refCells at hc; obtain ⟨g1', c1', e1, -, -, -, hg1', -, hn0, hn1⟩ := hM.ent HX.out; rw [HE12.out.1] at e1; obtain ⟨rfl, rfl⟩ : g1 = g1' ∧ c1 = c1' := by simpa using e1
  rw [HE12.out.1, HN1.out] at hc; have HSE := Lib.hid (fun (W' : World) (ho : Off [] W W') => r7set_any p j G1 F ⟨⟨⟨#[]⟩, 1, data, mode⟩, F.clock, true⟩ W' (hM.off_nil ho) (by rw [HN2.out]; exact hl2) (by have := HIL.out; omega)); unfold inoVal at HSE; dsimp only at hn1; clear hbn hoW hM e1
  go_wp2_with fail
  go_region_law ((go_simp; refine (HSE.out _ (Off.refl [] W).drew).mono ?_; rintro e w' ⟨rfl, hT⟩))
  all_goals go_wp2_with fail
  all_goals go_ret
  all_goals exact op_fin HOP.out.1 HOP.out.2 HL.out HR.out (RefTo.since (HO6.out.trans_nil (Off.refl [] W).drew) hT)
end
section
open Go.RowKit Go.Op Go.Maps
variable {A : RArg}
end
section
open Go.RowKit Go.Op Go.Maps
variable {A : RArg}
set_option maxRecDepth 100000 in
set_option maxHeartbeats 16000000 in
theorem r7remove_any (p n C : Nat) (G : RGeo) (D : PDisk) (path : ByteArray) (w : World) (h : RefM A w p G (norm D)) (hk : Ref0 C D n) (hA : ArgsX A w p G.blocks D) (hp : path.size ≤ 1048576) :
    Calls Tryz.prog 70 #[.pointer (some ⟨p, 0, none⟩), .string path] w fun e w' => e = .returned (.int .i64 (D.edited.remove path).1) ∧ RefTo A w p G.blocks w' (norm (D.edited.remove path).2) := by
  have HST := Lib.hid (r7step_any p n C G D ⟨#[82, 101, 109, 111, 118, 101]⟩ path ⟨#[]⟩ w h hk hA); have HK := Lib.hid (hk.stepped ⟨#[82, 101, 109, 111, 118, 101]⟩ path ⟨#[]⟩); have HS := Lib.hid (show D.edited.remove path = match D.edited.step ⟨#[82, 101, 109, 111, 118, 101]⟩ path ⟨#[]⟩ with | (full, e, E) => if e ≠ 0 then (e, E) else E.remove_ path from rfl)
  have HFA := Lib.hid (HK.out.1.facts (by have := hk.le; omega)); have HGF := Lib.hid (hk.step_free ⟨#[82, 101, 109, 111, 118, 101]⟩ path ⟨#[]⟩); clear h hk hA; generalize D.edited.step ⟨#[82, 101, 109, 111, 118, 101]⟩ path ⟨#[]⟩ = st at HST HS HK HFA HGF; obtain ⟨full, er, E⟩ := st; have HS := Lib.hid (show D.edited.remove path = if er ≠ 0 then (er, E) else E.remove_ path from HS.out)
  have HFA := Lib.hid (show RFacts (norm E) from HFA.out); have HGF := Lib.hid (show FreeMv E from HGF.out); generalize D.edited.remove path = B at HS ⊢
  go_enter Tryz.func70, Tryz.ntmps70
  go_wp2_with fail
  refine HST.out.mono ?_
  rintro e w1 ⟨rfl, hT⟩; have HT := Lib.hid hT; clear hT HST
  by_cases h0 : er = 0
  case neg =>
    have HS2 := Lib.hid (show B = (er, E) by rw [HS.out, if_pos h0]); have hne : (er == 0) = false := beq_eq_false_iff_ne.2 h0
    clear h0
    go_wp2_with fail
    go_ret
    rw [HS2.out]; exact ⟨rfl, HT.out⟩
  subst h0; have HS2 := Lib.hid (show B = E.remove_ path by rw [HS.out]; simp); have HL := Lib.hid (show rremove (norm E) path = (B.1, norm B.2) by rw [HS2.out]; exact norm_removeR HK.out.1.good.names HK.out.1.good.tree.names path); obtain ⟨G1, h1, ho1, hp1⟩ := HT.out; have HOP := Lib.hid (And.intro ho1 hp1); clear HS HS2 HT HK HGF ho1 hp1; generalize norm E = F at h1 HFA HL
  have H1 := Lib.hid h1; have HNK := Lib.hid HFA.out.nok; obtain ⟨b1, hb1⟩ : ∃ b, okPath (str path) = b := ⟨_, rfl⟩
  have HPA := Lib.hid (fun W => rpath_v path W hp b1 hb1); have HFI := Lib.hid (fun (W : World) (ho : Off [] w1 W) => rfind_any p G1 F path W (h1.off_nil ho)); have HNO := Lib.hid (show PDisk.no path = (!b1, 11) by unfold PDisk.no; rw [hb1]); clear hb1 h1
  go_wp2_with fail
  refine (HPA.out _).mono ?_
  rintro e w2 ⟨rfl, ho2⟩; have HO2 := Lib.hid ho2; clear ho2
  cases b1
  · have HR := Lib.hid (show rremove F path = (11, F) by unfold rremove; rw [HNO.out]; rfl)
    go_wp2_with fail
    go_ret
    exact op_fin HOP.out.1 HOP.out.2 HL.out HR.out (RefTo.off H1.out HO2.out)
  go_wp2_with fail
  refine (HFI.out _ HO2.out).mono ?_
  rintro e w3 ⟨rfl, ho3⟩; have HO3 := Lib.hid (HO2.out.trans_nil ho3); clear ho3
  rcases first_cases HNK.out path with ⟨ha, hi⟩ | ⟨i, j, m, ha, hi, -⟩
  · have HR := Lib.hid (show rremove F path = (74, F) by unfold rremove PDisk.gone; rw [HNO.out, ha]; rfl)
    rw [hi]; clear ha hi
    go_wp2_with fail
    go_ret
    exact op_fin HOP.out.1 HOP.out.2 HL.out HR.out (RefTo.off H1.out HO3.out)
  have HGO := Lib.hid (show F.gone path = (false, 74) by unfold PDisk.gone; rw [ha]; rfl); rw [hi]; clear ha hi; obtain ⟨pl, cap, hv, hcap, hcm, -⟩ := own_at H1.out.names; obtain ⟨N, hN⟩ : ∃ N, F.names.length = N := ⟨_, rfl⟩
  rw [hN] at hv hcap; have HV := Lib.hid hv; have HN := Lib.hid hN; have hnl : N ≤ 1000 := by rw [← hN]; exact HFA.out.nl
  unfold maxLen at hcm; clear hv hN
  go_wp2_with fail
  go_loopw [7] (fun x wr => ∃ i : Nat, x = .int .i64 i ∧ i ≤ N ∧ (∀ (j : Nat) (y : ByteArray × Nat), j < i → F.names[j]? = some y → bs (parent (str y.1)) ≠ path) ∧ Off [] w1 wr) (fun x _ => N - (intOf x).toNat)
  case atStart => exact ⟨0, rfl, by omega, fun j _ h => absurd h (by omega), HO3.out⟩
  case round =>
    obtain ⟨i, rfl, hi, hno, ho⟩ := hrel; have HO := Lib.hid ho; have HNX := Lib.hid hno; have hM := H1.out.off_nil ho; have hc := hM.blk.cell; unfold refCells at hc; rw [HV.out] at hc
    by_cases hlt : i < N
    · obtain ⟨x, hx⟩ : ∃ x, F.names[i]? = some x := ⟨_, List.getElem?_eq_getElem (by rw [HN.out]; exact hlt)⟩
      obtain ⟨g1, c1, e1, hl1, hc1, hm1, hg1, -, hn0, hn1⟩ := hM.ent hx; rw [HV.out, HN.out] at e1; injection e1 with e1 _ e3
      subst e1; subst e3; have HX := Lib.hid hx; have hxs := HFA.out.sz x (List.mem_of_getElem? hx); have hilt : (i : Int) < N := by omega
      obtain ⟨nm, k⟩ := x; dsimp only at hn0 hn1 hxs; obtain ⟨q, hq⟩ : ∃ q, bs (parent (str nm)) = q := ⟨_, rfl⟩
      have HQ := Lib.hid hq; have HPR := Lib.hid (fun W => rparent_v nm W hxs q hq); rw [HN.out] at hl1 hc1; clear hx hM ho hno hq hxs
      by_cases e : q = path
      · have he : (q.toList == path.toList) = true := by rw [e]; simp
        have HR := Lib.hid (show rremove F path = (72, F) by
          have : rinside F path = true := List.any_eq_true.2 ⟨(nm, k), List.mem_of_getElem? HX.out, decide_eq_true (HQ.out.trans e)⟩
          unfold rremove; rw [HNO.out, HGO.out, this]
          rfl)
        clear e
        go_wp2_with fail
        refine (HPR.out _).mono ?_
        rintro e w4 ⟨rfl, ho4⟩; have HO4 := Lib.hid (HO.out.trans_nil ho4); clear ho4 hc hn0 hn1
        go_wp2_with fail
        go_ret
        exact op_fin HOP.out.1 HOP.out.2 HL.out HR.out (RefTo.off H1.out HO4.out)
      have he : (q.toList == path.toList) = false := str_ne7 e
      have HE := Lib.hid e; clear e
      go_wp2_with fail
      refine (HPR.out _).mono ?_
      rintro e w4 ⟨rfl, ho4⟩; have HO4 := Lib.hid (HO.out.trans_nil ho4); clear ho4 hc hn0 hn1
      go_wp2_with fail
      refine ⟨⟨i + 1, by congr 1, by omega, fun j y hj hy => ?_, HO4.out⟩, by simp only [intOf]; omega⟩
      by_cases hji : j = i
      · subst hji
        rw [HX.out] at hy; injection hy with hy
        subst hy; rw [HQ.out]; exact HE.out
      exact HNX.out j y (by omega) hy
    obtain rfl : i = N := by omega
    have HR := Lib.hid (show rremove F path = (0, rchg F (delN F.names path)) by
      have : rinside F path = false := by
        unfold rinside; rw [List.any_eq_false]
        intro y hy
        obtain ⟨j, hj, e⟩ := List.getElem_of_mem hy; have := HNX.out j y (by rw [← HN.out]; exact hj) (by rw [List.getElem?_eq_getElem hj, e])
        simpa using this
      unfold rremove; rw [HNO.out, HGO.out, this]
      rfl)
    have HWO := Lib.hid (r7without_any p G1 F path wr hM (by rw [HN.out]; omega)); clear hno ho hM
    go_wp2_with fail
    refine HWO.out.mono ?_
    rintro e w4 ⟨v, rfl, hown, ho4⟩; clear hc; have HO4 := Lib.hid (HO.out.trans_nil ho4); have hsub : ∀ x ∈ delN F.names path, x ∈ F.names := fun x hx => (List.mem_filter.1 hx).1
    have HCH := Lib.hid (r7changed_any p G1 F v (delN F.names path) w4 (H1.out.off_nil HO4.out) (own_base hown (Nat.zero_le _)) (by have := length_delN_le F.names path; have := HFA.out.nl; omega) (fun x hx => HFA.out.sz x (hsub x hx)) (by have := HFA.out.ll; omega)); clear hown ho4 hsub
    go_wp2_with fail
    refine HCH.out.mono ?_
    rintro e w5 ⟨rfl, hT⟩
    go_wp2_with fail
    go_ret
    exact op_fin HOP.out.1 HOP.out.2 HL.out HR.out (RefTo.since HO4.out hT)
end
section
open Go.RowKit Go.Op Go.Maps
variable {A : RArg}
def twoN (l : NameL) (p q : ByteArray) : NameL := l.filter fun x => !decide (x.1 = p) && !decide (x.1 = q)
theorem twoN_take {l : NameL} {p q : ByteArray} {i : Nat} {x : ByteArray × Nat} (h : l[i]? = some x) : twoN (l.take (i + 1)) p q = twoN (l.take i) p q ++ (if x.1 = p ∨ x.1 = q then [] else [x]) := by
  unfold twoN; rw [List.take_add_one, h, List.filter_append]
  congr 1
  by_cases e : x.1 = p
  · rw [if_pos (.inl e)]; simp [e]
  by_cases e2 : x.1 = q
  · rw [if_pos (.inr e2)]; simp [e2]
  rw [if_neg (by rintro (h | h); exact e h; exact e2 h)]; simp [e, e2]
set_option maxRecDepth 100000 in
set_option maxHeartbeats 16000000 in
theorem r7replace_any (p n C : Nat) (G : RGeo) (D : PDisk) (path q : ByteArray) (w : World) (h : RefM A w p G (norm D)) (hk : Ref0 C D n) (hA : ArgsX A w p G.blocks D) (hp : path.size ≤ 1048576) (hq : q.size ≤ 1048576) :
    Calls Tryz.prog 67 #[.pointer (some ⟨p, 0, none⟩), .string path, .string q] w fun e w' => e = .returned (.int .i64 (D.edited.replace path q).1) ∧ RefTo A w p G.blocks w' (norm (D.edited.replace path q).2) := by
  have HST := Lib.hid (r7step_any p n C G D ⟨#[82, 101, 112, 108, 97, 99, 101]⟩ path q w h hk hA); have HK := Lib.hid (hk.stepped ⟨#[82, 101, 112, 108, 97, 99, 101]⟩ path q); have HS := Lib.hid (show D.edited.replace path q = match D.edited.step ⟨#[82, 101, 112, 108, 97, 99, 101]⟩ path q with | (full, e, E) => if e ≠ 0 then (e, E) else E.replace_ path q from rfl)
  have HFA := Lib.hid (HK.out.1.facts (by have := hk.le; omega)); have HGF := Lib.hid (hk.step_free ⟨#[82, 101, 112, 108, 97, 99, 101]⟩ path q); clear h hk hA; generalize D.edited.step ⟨#[82, 101, 112, 108, 97, 99, 101]⟩ path q = st at HST HS HK HFA HGF; obtain ⟨full, er, E⟩ := st; have HS := Lib.hid (show D.edited.replace path q = if er ≠ 0 then (er, E) else E.replace_ path q from HS.out)
  have HFA := Lib.hid (show RFacts (norm E) from HFA.out); have HGF := Lib.hid (show FreeMv E from HGF.out); generalize D.edited.replace path q = B at HS ⊢
  go_enter Tryz.func67, Tryz.ntmps67
  go_wp2_with fail
  refine HST.out.mono ?_
  rintro e w1 ⟨rfl, hT⟩; have HT := Lib.hid hT; clear hT HST
  by_cases h0 : er = 0
  case neg =>
    have HS2 := Lib.hid (show B = (er, E) by rw [HS.out, if_pos h0]); have hne : (er == 0) = false := beq_eq_false_iff_ne.2 h0
    clear h0
    go_wp2_with fail
    go_ret
    rw [HS2.out]; exact ⟨rfl, HT.out⟩
  subst h0; have HS2 := Lib.hid (show B = E.replace_ path q by rw [HS.out]; simp); have HL := Lib.hid (show rreplace (norm E) path q = (B.1, norm B.2) by rw [HS2.out]; exact norm_replaceR HK.out.1.good.names path q); obtain ⟨G1, h1, ho1, hp1⟩ := HT.out; have HOP := Lib.hid (And.intro ho1 hp1); clear HS HS2 HT HK HGF ho1 hp1; generalize norm E = F at h1 HFA HL; have H1 := Lib.hid h1
  have HNK := Lib.hid HFA.out.nok; obtain ⟨i0, hi0, hz0, hz1, hz2⟩ := info_parts infoEnt; obtain ⟨b1, hb1⟩ : ∃ b, okPath (str path) = b := ⟨_, rfl⟩
  obtain ⟨b2, hb2⟩ : ∃ b, okPath (str q) = b := ⟨_, rfl⟩
  have HPA := Lib.hid (fun W => rpath_v path W hp b1 hb1); have HPB := Lib.hid (fun W => rpath_v q W hq b2 hb2); have HNO := Lib.hid (show PDisk.no path = (!b1, 11) by unfold PDisk.no; rw [hb1]); have HNO2 := Lib.hid (show PDisk.no q = (!b2, 11) by unfold PDisk.no; rw [hb2]); have HOK2 := Lib.hid (And.intro hb1 hb2)
  have HFI := Lib.hid (fun (W : World) (ho : Off [] w1 W) => rfind_any p G1 F path W (h1.off_nil ho)); have HFQ := Lib.hid (fun (W : World) (ho : Off [] w1 W) => rfind_any p G1 F q W (h1.off_nil ho)); have HDP := Lib.hid (fun (W : World) (ho : Off [] w1 W) => r7dir_any p G1 F path W (h1.off_nil ho) HNK.out)
  have HDQ := Lib.hid (fun (W : World) (ho : Off [] w1 W) => r7dir_any p G1 F q W (h1.off_nil ho) HNK.out); obtain ⟨pq, hpq⟩ : ∃ pq, bs (parent (str q)) = pq := ⟨_, rfl⟩
  have HPQ := Lib.hid (fun W => rparent_v q W hq pq hpq); obtain ⟨b6, hb6⟩ : ∃ b, F.dir pq = b := ⟨_, rfl⟩
  have HDR := Lib.hid (fun (W : World) (ho : Off [] w1 W) => hb6 ▸ r7dir_any p G1 F pq W (h1.off_nil ho) HNK.out); have HPE := Lib.hid (show F.parentE q = (!b6, 62) by unfold PDisk.parentE; rw [hpq, hb6]); clear hb1 hb2 hpq hb6 h1
  go_wp2_with fail
  refine (HPA.out _).mono ?_
  rintro e w2 ⟨rfl, ho2⟩; have HO2 := Lib.hid ho2; clear ho2
  cases b1
  · have HR := Lib.hid (show rreplace F path q = (11, F) by unfold rreplace ; rw [HNO.out]; rfl)
    go_wp2_with fail
    go_ret
    exact op_fin HOP.out.1 HOP.out.2 HL.out HR.out (RefTo.off H1.out HO2.out)
  go_wp2_with fail
  refine (HPB.out _).mono ?_
  rintro e w3 ⟨rfl, ho3⟩; have HO3 := Lib.hid (HO2.out.trans_nil ho3); clear ho3
  cases b2
  · have HR := Lib.hid (show rreplace F path q = (11, F) by unfold rreplace ; rw [HNO.out, HNO2.out]; rfl)
    go_wp2_with fail
    go_ret
    exact op_fin HOP.out.1 HOP.out.2 HL.out HR.out (RefTo.off H1.out HO3.out)
  by_cases he : path = q
  · have hqe : (path.toList == q.toList) = true := by rw [he]; simp
    have HR := Lib.hid (show rreplace F path q = (2, F) by unfold rreplace; rw [HNO.out, HNO2.out, decide_eq_true he]; rfl); clear he
    go_wp2_with fail
    go_ret
    exact op_fin HOP.out.1 HOP.out.2 HL.out HR.out (RefTo.off H1.out HO3.out)
  have hqe : (path.toList == q.toList) = false := str_ne7 he
  have HNE := Lib.hid (show decide (path = q) = false from decide_eq_false he); clear he
  go_wp2_with fail
  refine (HFI.out _ HO3.out).mono ?_
  rintro e w4 ⟨rfl, ho4⟩; have HO4 := Lib.hid (HO3.out.trans_nil ho4); clear ho4
  rcases first_cases HNK.out path with ⟨ha, hi⟩ | ⟨i, j, m, ha, hi, hx1, hx2, hx3⟩
  · have HR := Lib.hid (show rreplace F path q = (74, F) by unfold rreplace PDisk.gone; rw [HNO.out, HNO2.out, HNE.out, ha]; rfl)
    rw [hi]; clear ha hi
    go_wp2_with fail
    go_ret
    exact op_fin HOP.out.1 HOP.out.2 HL.out HR.out (RefTo.off H1.out HO4.out)
  have HGO := Lib.hid (show F.gone path = (false, 74) by unfold PDisk.gone; rw [ha]; rfl); have HX1 := Lib.hid hx1; have HX2 := Lib.hid hx2; rw [hi]; clear ha hi hx1 hx2 hx3; obtain ⟨d1, hd1⟩ : ∃ b, F.dir path = b := ⟨_, rfl⟩
  obtain ⟨d2, hd2⟩ : ∃ b, F.dir q = b := ⟨_, rfl⟩
  rw [hd1] at HDP; rw [hd2] at HDQ; have HD12 := Lib.hid (And.intro hd1 hd2); clear hd1 hd2
  go_wp2_with fail
  refine (HDP.out _ HO4.out).mono ?_
  rintro e w5 ⟨rfl, ho5⟩; have HO5 := Lib.hid (HO4.out.trans_nil ho5); clear ho5
  cases d1
  case true =>
    have HR := Lib.hid (show rreplace F path q = (73, F) by unfold rreplace; rw [HNO.out, HNO2.out, HNE.out, HGO.out, HD12.out.1]; rfl)
    go_wp2_with fail
    go_ret
    exact op_fin HOP.out.1 HOP.out.2 HL.out HR.out (RefTo.off H1.out HO5.out)
  go_wp2_with fail
  refine (HDQ.out _ HO5.out).mono ?_
  rintro e w6 ⟨rfl, ho6⟩; have HO6 := Lib.hid (HO5.out.trans_nil ho6); clear ho6
  cases d2
  case true =>
    have HR := Lib.hid (show rreplace F path q = (73, F) by unfold rreplace; rw [HNO.out, HNO2.out, HNE.out, HGO.out, HD12.out.1, HD12.out.2]; rfl)
    go_wp2_with fail
    go_ret
    exact op_fin HOP.out.1 HOP.out.2 HL.out HR.out (RefTo.off H1.out HO6.out)
  go_wp2_with fail
  refine (HPQ.out _).mono ?_
  rintro e w7 ⟨rfl, ho7⟩; have HO7 := Lib.hid (HO6.out.trans_nil ho7); clear ho7
  go_wp2_with fail
  refine (HDR.out _ HO7.out).mono ?_
  rintro e w8 ⟨rfl, ho8⟩; have HO8 := Lib.hid (HO7.out.trans_nil ho8); clear ho8
  cases b6
  · have HR := Lib.hid (show rreplace F path q = (62, F) by unfold rreplace; rw [HNO.out, HNO2.out, HNE.out, HGO.out, HD12.out.1, HD12.out.2, HPE.out]; rfl)
    go_wp2_with fail
    go_ret
    exact op_fin HOP.out.1 HOP.out.2 HL.out HR.out (RefTo.off H1.out HO8.out)
  have HR := Lib.hid (show rreplace F path q = (0, rchg F (twoN F.names path q ++ [(q, j + 1)])) by
    unfold rreplace rtwo; rw [HNO.out, HNO2.out, HNE.out, HGO.out, HD12.out.1, HD12.out.2, HPE.out, HX2.out]
    rfl)
  obtain ⟨pl, cap, hv, hcap, hcm, -⟩ := own_at H1.out.names; obtain ⟨N, hN⟩ : ∃ N, F.names.length = N := ⟨_, rfl⟩
  rw [hN] at hv hcap; have HV := Lib.hid hv; have HN := Lib.hid hN; have hnl : N ≤ 1000 := by rw [← hN]; exact HFA.out.nl
  unfold maxLen at hcm; clear hv hN; have hM := H1.out.off_nil HO8.out; have hc := hM.blk.cell; unfold refCells at hc; rw [HV.out] at hc; obtain ⟨g1, c1, e1, hl1, hc1, hm1, hg1, -, hn0, hn1⟩ := hM.ent HX1.out; rw [HV.out, HN.out] at e1; injection e1 with e1 _ e3
  subst e1; subst e3; rw [HN.out] at hl1 hc1; dsimp only at hn1; clear hM HDP HDQ HPA HPB HPQ HDR HFI HFQ
  go_wp2_with fail
  have HSZ := Lib.hid (show w1.heap.size ≤ w8.heap.size from HO8.out.size)
  go_loopw [11, 12] (fun v x wr => ∃ i : Nat, x = .int .i64 i ∧ i ≤ N ∧ (twoN (F.names.take i) path q).length ≤ i ∧ wr.ownsRow w1.heap.size 127 2 v (twoN (F.names.take i) path q).length (entCells (twoN (F.names.take i) path q)) ∧ Off [] w1 wr) (fun _ x _ => N - (intOf x).toNat)
  case atStart => exact ⟨0, rfl, by omega, by simp [twoN], ⟨rfl, .inl ⟨rfl, rfl⟩⟩, HO8.out⟩
  case round =>
    clear hc hn0 hn1; obtain ⟨i, rfl, hi, hdl, hown, ho⟩ := hrel; have HO := Lib.hid ho; have HOWN := Lib.hid hown; have hM := H1.out.off_nil ho; have hc := hM.blk.cell; unfold refCells at hc; rw [HV.out] at hc
    by_cases hlt : i < N
    · obtain ⟨x, hx⟩ : ∃ x, F.names[i]? = some x := ⟨_, List.getElem?_eq_getElem (by rw [HN.out]; exact hlt)⟩
      obtain ⟨g2, c2, e2, hl2, hc2, hm2, hg2, -, hn0, hn1⟩ := hM.ent hx; rw [HV.out, HN.out] at e2; injection e2 with e2 _ e3
      injection e2 with e2
      injection e2 with e2 _
      subst e2; subst e3; have HDT := Lib.hid (twoN_take (p := path) (q := q) hx); have hilt : (i : Int) < N := by omega
      obtain ⟨nm, k⟩ := x; dsimp only at hn0 hn1; have HSZ := Lib.hid (show w1.heap.size ≤ wr.heap.size from ho.size)
      by_cases e : nm = path
      · have he1 : (nm.toList == path.toList) = true := by rw [e]; simp
        have HE := Lib.hid (show twoN (F.names.take (i + 1)) path q = twoN (F.names.take i) path q by rw [HDT.out, if_pos (.inl e), List.append_nil]); clear e hx hM ho hown
        go_wp2_with fail
        refine ⟨⟨i + 1, by congr 1, by omega, by rw [HE.out]; omega, ?_, HO.out⟩, by simp only [intOf]; omega⟩
        rw [HE.out]; exact HOWN.out
      have he1 : (nm.toList == path.toList) = false := str_ne7 e
      by_cases e' : nm = q
      · have he2 : (nm.toList == q.toList) = true := by rw [e']; simp
        have HE := Lib.hid (show twoN (F.names.take (i + 1)) path q = twoN (F.names.take i) path q by rw [HDT.out, if_pos (.inr e'), List.append_nil]); clear e e' hx hM ho hown
        go_wp2_with fail
        refine ⟨⟨i + 1, by congr 1, by omega, by rw [HE.out]; omega, ?_, HO.out⟩, by simp only [intOf]; omega⟩
        rw [HE.out]; exact HOWN.out
      have he2 : (nm.toList == q.toList) = false := str_ne7 e'
      have HE := Lib.hid (show twoN (F.names.take (i + 1)) path q = twoN (F.names.take i) path q ++ [(nm, k)] by rw [HDT.out, if_neg (by rintro (h | h); exact e h; exact e' h)]); have hnB := hown.alloc (.cells #[.string nm, .int .i64 k] 127); generalize twoN (F.names.take i) path q = L at *; obtain ⟨ln, hln⟩ : ∃ ln, L.length = ln := ⟨_, rfl⟩
      have HLN := Lib.hid hln; rw [hln] at hnB hdl; clear e e' hx hM ho hown hln
      go_wp2_with (at_builtin; refine wpList_append_own _ rfl _ _ 64 rfl w1.heap.size 127 i0 _ 2 24 Tryz.underlying64 hi0 hz0 hz1 hz2 rfl (by decide) _ _ _ rfl hnB ⟨wr.heap.size, 0, none⟩ 1 1 [_, _] rfl rfl (cell_two_at (Blk.new wr _ _)) (by simp [Value.oneCell']) (by unfold maxLen; omega) (by omega) (by have := HSZ.out; simp; omega) ?_; intro v' W6 hown' hgrow _)
      refine ⟨⟨i + 1, by congr 1, by omega, by rw [HE.out, List.length_append, HLN.out]; simp; omega, ?_, ?_⟩, by simp only [intOf]; omega⟩
      · rw [HE.out, entCells_snoc, List.length_append, HLN.out]
        exact hown'
      exact own_grown ((HO.out.alloc _)) hnB hgrow
    obtain rfl : i = N := by omega
    have HTK := Lib.hid (show F.names.take i = F.names from List.take_of_length_le (by rw [HN.out]; exact Nat.le_refl _)); rw [HTK.out] at hown hdl; have hnB := hown.alloc (.cells #[.string q, .int .i64 ((j + 1 : Nat) : Int)] 127); have HSZ := Lib.hid (show w1.heap.size ≤ wr.heap.size from ho.size)
    have HSX := Lib.hid (show ∀ x ∈ twoN F.names path q ++ [(q, j + 1)], x.1.size ≤ 1048576 from fun x hx => by
      rcases List.mem_append.1 hx with hx | hx
      · exact HFA.out.sz x (List.mem_filter.1 hx).1
      simp at hx; subst hx; exact hq)
    generalize twoN F.names path q = L at *
    obtain ⟨ln, hln⟩ : ∃ ln, L.length = ln := ⟨_, rfl⟩
    have HLN := Lib.hid hln; rw [hln] at hnB hdl; clear hM ho hown hln HOWN
    go_wp2_with (at_builtin; refine wpList_append_own _ rfl _ _ 64 rfl w1.heap.size 127 i0 _ 2 24 Tryz.underlying64 hi0 hz0 hz1 hz2 rfl (by decide) _ _ _ rfl hnB ⟨wr.heap.size, 0, none⟩ 1 1 [_, _] rfl rfl (cell_two_at (Blk.new wr _ _)) (by simp [Value.oneCell']) (by unfold maxLen; omega) (by omega) (by have := HSZ.out; simp; omega) ?_; intro v' W6 hown' hgrow _)
    have hO6 := own_grown ((HO.out.alloc _)) hnB hgrow; have HO6 := Lib.hid hO6; have HCH := Lib.hid (r7changed_any p G1 F v' (L ++ [(q, j + 1)]) W6 (H1.out.off_nil hO6) (by
      unfold EntAt; rw [entCells_snoc, List.length_append, HLN.out]; exact own_base hown' (Nat.zero_le _)) (by rw [List.length_append, HLN.out]; simp; omega) HSX.out (by have := HFA.out.ll; omega))
    clear hnB hown' hgrow hO6; refine HCH.out.mono ?_; rintro e w9 ⟨rfl, hT⟩
    go_wp2_with fail
    go_ret
    exact op_fin HOP.out.1 HOP.out.2 HL.out HR.out (RefTo.since HO6.out hT)
end
section
open Go.RowKit Go.Op Go.Maps
variable {A : RArg}
end
section
section
variable {P : Program} {ops : Array Oper} {md : Region.Mode} {C : World → Prop} {n : Nat}
end
end
section
open Go.RowKit Go.Op Go.Maps
variable {A : RArg}
theorem Off.setIn {l : List Nat} {w w' : World} {b k : Nat} {u : Value} (hb : b ∈ l) (h : Off l w w') : Off l w (w'.setCell ⟨b, k, none⟩ u) := h.setCell (.inr hb) u
theorem get_fin {w w' : World} {p : Nat} {L : List Nat} {B : (Int × Node × Int × Int × Int) × PDisk} {r : Int × Node × Int × Int × Int} {F : PDisk} (hB : (B.1, norm B.2) = (r, F)) (_ : True) (hT : RefTo A w p L w' F) : Ending.returned (getVal r) = .returned (getVal B.1) ∧ RefTo A w p L w' (norm B.2) := by
  injection hB with h1 h2
  subst h1; subst h2; exact ⟨rfl, hT⟩
set_option maxRecDepth 100000 in
set_option maxHeartbeats 16000000 in
theorem r7get_any (p n C : Nat) (G : RGeo) (D : PDisk) (path : ByteArray) (w : World) (h : RefM A w p G (norm D)) (hk : Ref0 C D n) (hA : ArgsX A w p G.blocks D) (hs : path.size ≤ 1048576) :
    Calls Tryz.prog 69 #[.pointer (some ⟨p, 0, none⟩), .string path] w fun e w' => e = .returned (getVal (D.edited.get path).1) ∧ RefTo A w p G.blocks w' (norm (D.edited.get path).2) := by
  have H := Lib.hid h; have HSTEP := Lib.hid (fun (W : World) (ho : Off [] w W) => r7step_any p n C G D ⟨#[71, 101, 116]⟩ path ⟨#[]⟩ W (h.off_nil ho) hk (hA.off ho)); have HK := Lib.hid (hk.stepped ⟨#[71, 101, 116]⟩ path ⟨#[]⟩); have HFA := Lib.hid (HK.out.1.facts (by have := hk.le; omega))
  have HS := Lib.hid (show D.edited.get path = match D.edited.step ⟨#[71, 101, 116]⟩ path ⟨#[]⟩ with | (_, e, E) => if e ≠ 0 then ((e, ⟨⟨#[]⟩, 0, ⟨#[]⟩, 0⟩, 0, 0, 0), E) else (E.get_ path, E) from rfl); clear h hk hA; generalize D.edited.step ⟨#[71, 101, 116]⟩ path ⟨#[]⟩ = st at HS HSTEP HK HFA; obtain ⟨full, er, E⟩ := st
  have HS := Lib.hid (show D.edited.get path = if er ≠ 0 then ((er, ⟨⟨#[]⟩, 0, ⟨#[]⟩, 0⟩, 0, 0, 0), E) else (E.get_ path, E) from HS.out); have HFA := Lib.hid (show RFacts (norm E) from HFA.out); generalize D.edited.get path = B at HS ⊢; have HGE := Lib.hid (show (norm E).get_ path = E.get_ path from norm_get HK.out.1.good.names path)
  have HSTEP := Lib.hid (show ∀ (W : World) (ho : Off [] w W), Calls Tryz.prog 100 #[.pointer (some ⟨p, 0, none⟩), .string ⟨#[71, 101, 116]⟩, .string path, .string ⟨#[]⟩] W fun e w' => e = .returned (.tuple #[.int .i64 er, .bool full]) ∧ RefTo A W p G.blocks w' (norm E) from HSTEP.out)
  have HB := Lib.hid (show (B.1, norm B.2) = (if er ≠ 0 then (er, ⟨⟨#[]⟩, 0, ⟨#[]⟩, 0⟩, 0, 0, 0) else (norm E).get_ path, norm E) by
    rw [HS.out, HGE.out]
    split <;> rfl)
  clear HS HK HGE; generalize norm E = F at HSTEP HFA HB
  go_enter Tryz.func69, Tryz.ntmps69
  go_upto_region 1 with fail
  refine code_gen (fun W => Blk W w.heap.size 30 #[.string ⟨#[]⟩, .int .i64 0, .string ⟨#[]⟩, .int .i64 0] ∧ Blk W (w.heap.size + 1) 39 #[.int .i64 0, .int .i64 0, .int .i64 0] ∧ Off [] w W ∧ w.heap.size + 1 < W.heap.size)
    ⟨(Blk.new w _ _).alloc _, Blk.new1 w _ _ _, ((Off.refl _ _).alloc _).alloc _, by simp⟩ ?_
  rintro W ⟨hbn, hbs, hof, hsz⟩; have HBN := Lib.hid hbn; have HBS := Lib.hid hbs; have HOF := Lib.hid hof; have HSZ := Lib.hid hsz; clear hbn hbs hof hsz
  go_wp2_with fail
  refine (HSTEP.out W HOF.out).mono ?_
  rintro e w1 ⟨rfl, hT⟩; have HT := Lib.hid hT; obtain ⟨G1, h1, ho1, hp1⟩ := hT; have hno : ∀ b, w.heap.size ≤ b → b < W.heap.size → b ∉ p :: G.blocks := fun b hb _ hm => by
    rcases List.mem_cons.1 hm with rfl | hm
    · have := H.out.blk.lt; omega
    have := H.out.lt hm; omega
  have hbn1 := HBN.out.off ho1 (hno _ (Nat.le_refl _) (by have := HSZ.out; omega)); have hbs1 := HBS.out.off ho1 (hno _ (by omega) HSZ.out); have HBN1 := Lib.hid hbn1; have HBS1 := Lib.hid hbs1; have H1 := Lib.hid h1; have HOP := Lib.hid (And.intro ho1 hp1); have HKK := Lib.hid (show ∀ b ∈ [w.heap.size, w.heap.size + 1], w.heap.size ≤ b ∧ b < W.heap.size from fun b hb => by
    have := HSZ.out; simp at hb; omega)
  have HLW := Lib.hid (show W.heap.size ≤ w1.heap.size from ho1.size); clear h1 ho1 hp1 hno HSTEP hbn1 hbs1; have hcn := HBN1.out.cell; have hfn := HBN1.out.frozen; have hln := HBN1.out.lt; have hcs := HBS1.out.cell; have hfs := HBS1.out.frozen; have hls := HBS1.out.lt
  by_cases h0 : er = 0
  case neg =>
    have HB := Lib.hid (show (B.1, norm B.2) = ((er, ⟨⟨#[]⟩, 0, ⟨#[]⟩, 0⟩, 0, 0, 0), F) by rw [HB.out, if_pos h0]); have hne : (er == 0) = false := beq_eq_false_iff_ne.2 h0
    clear h0
    go_wp2_with fail
    obtain ⟨k1, k2, k3⟩ := put7 (a := .string ⟨#[]⟩) (b := .int .i64 0) (c := .string ⟨#[]⟩) (d := .int .i64 0) (x := .int .i64 0) (y := .int .i64 0) (z := .int .i64 0) HBN1.out HBS1.out; have hc1 := k1.cell; have hc2 := k2.cell; have K3 := Lib.hid k3; clear k1 k2 k3 hcn hfn hln hcs hfs hls
    refine bodyPost_ret (v := .tuple #[.agg #[.string ⟨#[]⟩, .int .i64 0, .string ⟨#[]⟩, .int .i64 0], .agg #[.int .i64 0, .int .i64 0, .int .i64 0], .int .i64 er]) ?_ rfl ?_
    · have hres : Tryz.f69.results = #[.cell 4 30, .cell 5 39, .tmp 6] := rfl
      simp only [results, hres]
      go_simp
    exact get_fin HB.out trivial (RefTo.own H.out HOF.out (RefTo.step HT.out (Off.refl _ _)) K3.out HKK.out)
  subst h0; have HB := Lib.hid (show (B.1, norm B.2) = (F.get_ path, F) by rw [HB.out]; simp)
  by_cases hp : path = ⟨#[]⟩
  · subst hp
    have HB := Lib.hid (show (B.1, norm B.2) = ((0, ⟨⟨#[]⟩, 2, ⟨#[]⟩, 0⟩, 0, 0, 0), F) by rw [HB.out]; unfold PDisk.get_; rw [if_pos rfl])
    go_wp2_with fail
    obtain ⟨k1, k2, k3⟩ := put7 (a := .string ⟨#[]⟩) (b := .int .i64 2) (c := .string ⟨#[]⟩) (d := .int .i64 0) (x := .int .i64 0) (y := .int .i64 0) (z := .int .i64 0) HBN1.out HBS1.out; have hc1 := k1.cell; have hc2 := k2.cell; have K3 := Lib.hid k3; clear k1 k2 k3 hcn hfn hln hcs hfs hls
    refine bodyPost_ret (v := .tuple #[.agg #[.string ⟨#[]⟩, .int .i64 2, .string ⟨#[]⟩, .int .i64 0], .agg #[.int .i64 0, .int .i64 0, .int .i64 0], .int .i64 0]) ?_ rfl ?_
    · have hres : Tryz.f69.results = #[.cell 4 30, .cell 5 39, .tmp 6] := rfl
      simp only [results, hres]
      go_simp
    exact get_fin HB.out trivial (RefTo.own H.out HOF.out (RefTo.step HT.out (Off.refl _ _)) K3.out HKK.out)
  obtain ⟨hpe1, hpe2⟩ := emp_ne hp; obtain ⟨b1, hb1⟩ : ∃ b, okPath (str path) = b := ⟨_, rfl⟩
  have HPA := Lib.hid (fun W => rpath_v path W hs b1 hb1); have HFI := Lib.hid (fun (W : World) (ho : Off [] w1 W) => rfind_any p G1 F path W (H1.out.off_nil ho)); have HNO := Lib.hid (show PDisk.no path = (!b1, 11) by unfold PDisk.no; rw [hb1]); have HNP := Lib.hid hp; clear hb1 hp hcn hfn hln hcs hfs hls
  go_wp2_with fail
  refine (HPA.out _).mono ?_
  rintro e w2 ⟨rfl, ho2⟩; have HO2 := Lib.hid ho2; have HBN2 := Lib.hid (HBN1.out.off ho2 (by simp)); have HBS2 := Lib.hid (HBS1.out.off ho2 (by simp)); clear ho2
  cases b1
  · have HB := Lib.hid (show (B.1, norm B.2) = ((11, ⟨⟨#[]⟩, 0, ⟨#[]⟩, 0⟩, 0, 0, 0), F) by rw [HB.out]; unfold PDisk.get_; rw [if_neg HNP.out, HNO.out]; rfl)
    have hcn := HBN2.out.cell; have hfn := HBN2.out.frozen; have hln := HBN2.out.lt; have hcs := HBS2.out.cell; have hfs := HBS2.out.frozen; have hls := HBS2.out.lt
    go_wp2_with fail
    obtain ⟨k1, k2, k3⟩ := put7 (a := .string ⟨#[]⟩) (b := .int .i64 0) (c := .string ⟨#[]⟩) (d := .int .i64 0) (x := .int .i64 0) (y := .int .i64 0) (z := .int .i64 0) HBN2.out HBS2.out; have hc1 := k1.cell; have hc2 := k2.cell; have K3 := Lib.hid k3; clear k1 k2 k3 hcn hfn hln hcs hfs hls
    refine bodyPost_ret (v := .tuple #[.agg #[.string ⟨#[]⟩, .int .i64 0, .string ⟨#[]⟩, .int .i64 0], .agg #[.int .i64 0, .int .i64 0, .int .i64 0], .int .i64 11]) ?_ rfl ?_
    · have hres : Tryz.f69.results = #[.cell 4 30, .cell 5 39, .tmp 6] := rfl
      simp only [results, hres]
      go_simp
    exact get_fin HB.out trivial (RefTo.own H.out HOF.out (RefTo.step HT.out HO2.out) K3.out HKK.out)
  go_wp2_with fail
  refine (HFI.out _ HO2.out).mono ?_
  rintro e w3 ⟨rfl, ho3⟩; have HO3 := Lib.hid (HO2.out.trans_nil ho3); have HBN3 := Lib.hid (HBN2.out.off ho3 (by simp)); have HBS3 := Lib.hid (HBS2.out.off ho3 (by simp)); clear ho3
  rcases first_cases HFA.out.nok path with ⟨ha, hi⟩ | ⟨i, j, m, ha, hi, hx1, hx2, hx3⟩
  · have HB := Lib.hid (show (B.1, norm B.2) = ((74, ⟨⟨#[]⟩, 0, ⟨#[]⟩, 0⟩, 0, 0, 0), F) by rw [HB.out]; unfold PDisk.get_ PDisk.gone; rw [if_neg HNP.out, HNO.out, ha]; rfl)
    rw [hi]; clear ha hi; have hcn := HBN3.out.cell; have hfn := HBN3.out.frozen; have hln := HBN3.out.lt; have hcs := HBS3.out.cell; have hfs := HBS3.out.frozen; have hls := HBS3.out.lt
    go_wp2_with fail
    obtain ⟨k1, k2, k3⟩ := put7 (a := .string ⟨#[]⟩) (b := .int .i64 0) (c := .string ⟨#[]⟩) (d := .int .i64 0) (x := .int .i64 0) (y := .int .i64 0) (z := .int .i64 0) HBN3.out HBS3.out; have hc1 := k1.cell; have hc2 := k2.cell; have K3 := Lib.hid k3; clear k1 k2 k3 hcn hfn hln hcs hfs hls
    refine bodyPost_ret (v := .tuple #[.agg #[.string ⟨#[]⟩, .int .i64 0, .string ⟨#[]⟩, .int .i64 0], .agg #[.int .i64 0, .int .i64 0, .int .i64 0], .int .i64 74]) ?_ rfl ?_
    · have hres : Tryz.f69.results = #[.cell 4 30, .cell 5 39, .tmp 6] := rfl
      simp only [results, hres]
      go_simp
    exact get_fin HB.out trivial (RefTo.own H.out HOF.out (RefTo.step HT.out HO3.out) K3.out HKK.out)
  have HB := Lib.hid (show (B.1, norm B.2) = ((0, { m.node with path := path }, ((j + 1 : Nat) : Int), (m.node.data.size : Int), m.time), F) by
    rw [HB.out]; unfold PDisk.get_ PDisk.gone; rw [if_neg HNP.out, HNO.out, ha, hx2]
    rfl)
  have hds := HFA.out.ds m (List.mem_of_getElem? hx3); unfold maxLen at hds; rw [hi]; have hM := H1.out.off_nil HO3.out; have hc := hM.blk.cell; have hlp := hM.blk.lt; unfold refCells at hc; obtain ⟨g1, c1, e1, hl1, hc1, hm1, hg1, -, hn0, hn1⟩ := hM.ent hx1; obtain ⟨g2, c2, e2, hl2, hc2, hm2, hg2, -, k0, k1, k2, k3, k4⟩ := hM.ino hx3; rw [e1, e2] at hc; have HX := Lib.hid hx1
  have HE12 := Lib.hid (And.intro e1 e2); obtain ⟨n1, hn1'⟩ : ∃ n, F.names.length = n := ⟨_, rfl⟩
  obtain ⟨n2, hn2'⟩ : ∃ n, F.inos.length = n := ⟨_, rfl⟩
  rw [hn1', hn2'] at hc; rw [hn1'] at hl1 hc1; rw [hn2'] at hl2 hc2; have HN12 := Lib.hid (And.intro hn1' hn2'); unfold maxLen at hm1 hm2; have hwr : IntKind.i64.wrap (((j + 1 : Nat) : Int) - 1) = (j : Int) := by rw [show ((j + 1 : Nat) : Int) - 1 = j by omega]; exact IntWalk.i64_in _ (by omega)
  dsimp only at hn1
  clear hM e1 e2 ha hi hx1 hx2 hx3 hn1' hn2'
  go_wp2_with fail
  go_region
  go_wp2_with fail
  refine code_gen (fun W => Blk W w3.heap.size 125 #[.int .i64 m.node.kind, .int .i64 m.node.mode, .int .i64 m.time, .string m.node.data, .bool m.dirty] ∧ Off [] w3 W) ⟨(Blk.new w3 _ _).drew, ((Off.refl [] w3).alloc _).drew⟩ ?_
  clear hc k0 k1 k2 k3 k4 hn0 hn1; rintro W6 ⟨hb6, ho6⟩; have HO6 := Lib.hid (HO3.out.trans_nil ho6); have HBN6 := Lib.hid (HBN3.out.off ho6 (by simp)); have HBS6 := Lib.hid (HBS3.out.off ho6 (by simp)); have hM := H1.out.off_nil HO6.out; have hc0 := hM.blk.cell; have hlp6 := hM.blk.lt; unfold refCells at hc0; obtain ⟨g1', c1', e1, -, -, -, hg1', ⟨csg, hBg1⟩, hn0, hn1⟩ := hM.ent HX.out
  rw [HE12.out.1] at e1; obtain ⟨rfl, rfl⟩ : g1 = g1' ∧ c1 = c1' := by simpa using e1
  rw [HE12.out.1, HN12.out.1] at hc0; dsimp only at hn1; have hne1 : p ≠ w.heap.size := by have := H.out.blk.lt; omega
  have hne2 : p ≠ w.heap.size + 1 := by have := H.out.blk.lt; omega
  have hsz3 : w.heap.size + 1 < w3.heap.size := by have := HSZ.out; have := HLW.out; have := HO3.out.size; omega
  have hne3 : w3.heap.size ≠ w.heap.size := by omega
  have hne4 : w3.heap.size ≠ w.heap.size + 1 := by omega
  have hne5 : g1 ≠ w.heap.size := hBg1.ne_ HBN6.out (by decide)
  have hne6 : g1 ≠ w.heap.size + 1 := hBg1.ne_ HBS6.out (by decide)
  have hc := hb6.cell; have hf := hb6.frozen; have hl := hb6.lt; have hcn := HBN6.out.cell; have hfn := HBN6.out.frozen; have hln := HBN6.out.lt; have hcs := HBS6.out.cell; have hfs := HBS6.out.frozen; have hls := HBS6.out.lt; clear hb6 ho6 hM e1 hBg1; obtain ⟨ix, hix⟩ : ∃ x : Int, ((j + 1 : Nat) : Int) = x := ⟨_, rfl⟩
  rw [hix] at hn1; have HB := Lib.hid (show (B.1, norm B.2) = ((0, { m.node with path := path }, ix, (m.node.data.size : Int), m.time), F) by rw [← hix]; exact HB.out); clear hix hwr hds hc1 hm1 hl2 hc2 hm2 hg2
  have SK := Lib.hid (show ∀ W', Off [w.heap.size, w.heap.size + 1] W6 W' → W'.cell? ⟨p, 0, none⟩ = some (.slice (some ⟨g1, 0, none⟩) n1 c1) ∧ W'.cell? ⟨g1, i * 2 + 1, none⟩ = some (.int .i64 ix) ∧ W'.cell? ⟨w3.heap.size, 0, none⟩ = some (.int .i64 m.node.kind) ∧ W'.cell? ⟨w3.heap.size, 1, none⟩ = some (.int .i64 m.node.mode) ∧ W'.cell? ⟨w3.heap.size, 2, none⟩ = some (.int .i64 m.time) ∧ W'.cell? ⟨w3.heap.size, 3, none⟩ = some (.string m.node.data) from fun W' ho =>
    ⟨(ho.cell (p := ⟨p, 0, none⟩) hlp6 (by simp; omega)).trans (hc0 0), (ho.cell (p := ⟨g1, i * 2 + 1, none⟩) hg1' (by simp; omega)).trans hn1, (ho.cell (p := ⟨w3.heap.size, 0, none⟩) hl (by simp; omega)).trans (hc 0), (ho.cell (p := ⟨w3.heap.size, 1, none⟩) hl (by simp; omega)).trans (hc 1), (ho.cell (p := ⟨w3.heap.size, 2, none⟩) hl (by simp; omega)).trans (hc 2), (ho.cell (p := ⟨w3.heap.size, 3, none⟩) hl (by simp; omega)).trans (hc 3)⟩)
  clear hc hf hc0 hn0 hn1 hsz3
  go_region_held_law (fun W' => W'.cell? ⟨p, 0, none⟩ = some (.slice (some ⟨g1, 0, none⟩) n1 c1) ∧ W'.cell? ⟨g1, i * 2 + 1, none⟩ = some (.int .i64 ix) ∧ W'.cell? ⟨w3.heap.size, 0, none⟩ = some (.int .i64 m.node.kind) ∧ W'.cell? ⟨w3.heap.size, 1, none⟩ = some (.int .i64 m.node.mode) ∧ W'.cell? ⟨w3.heap.size, 2, none⟩ = some (.int .i64 m.time) ∧ W'.cell? ⟨w3.heap.size, 3, none⟩ = some (.string m.node.data)) (first | with_reducible assumption | (with_reducible refine SK.out _ ?_; repeat (first | with_reducible apply Off.refl | with_reducible apply Off.drew | refine Off.setIn (by simp) ?_))) (fail)
  obtain ⟨k1, k2, k3⟩ := put7 (a := .string path) (b := .int .i64 m.node.kind) (c := .string m.node.data) (d := .int .i64 m.node.mode) (x := .int .i64 ix) (y := .int .i64 m.node.data.size) (z := .int .i64 m.time) HBN6.out HBS6.out; have hc1 := k1.drew.cell; have hc2 := k2.drew.cell; have hl1 := k1.drew.lt; have K3 := Lib.hid k3.drew; clear k1 k2 k3 hcn hfn hln hcs hfs hls hl
  go_wp2_with fail
  refine bodyPost_ret (v := .tuple #[.agg #[.string path, .int .i64 m.node.kind, .string m.node.data, .int .i64 m.node.mode], .agg #[.int .i64 ix, .int .i64 m.node.data.size, .int .i64 m.time], .int .i64 0]) ?_ rfl ?_
  · have hres : Tryz.f69.results = #[.cell 4 30, .cell 5 39, .tmp 6] := rfl
    simp only [results, hres]
    go_simp
  exact get_fin HB.out trivial (RefTo.own H.out HOF.out (RefTo.step HT.out HO6.out) K3.out HKK.out)
end
section
open Go.RowKit Go.Op
end
section
open Go.RowKit Go.Op Go.Maps
variable {A : RArg}
end
end Go.Proofs.YtgcfkljooabjjaaGreatDoor
