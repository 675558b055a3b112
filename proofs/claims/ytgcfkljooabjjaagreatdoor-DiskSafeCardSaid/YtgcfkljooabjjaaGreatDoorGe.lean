/- Texts of this claim, one behind the other: DRep OrdD SortP PutLaw BackLaw DSort DTree DRun WholeLaw DAwake DWhole. Conditions: what each lemma states. -/
import Derived.Test.YtgcfkljooabjjaaGreatDoorGd
import Derived.Test.YtgcfkljooabjjaaGreatDoorGa
import Derived.Shelf.SlLaysF
import Derived.Shelf.SlLaysZ
import Derived.Test.YtgcfkljooabjjaaGreatDoorProg
import Derived.Test.YtgcfkljooabjjaaGreatDoorGb
import Derived.Shelf.SlSortCmp.NoneTotal
import Derived.Shelf.SlIter.Collect
import Derived.Test.YtgcfkljooabjjaaGreatDoorGc
import Derived.KernelRfl
/- A disk's Replace: the walk. Conditions: what the contract states. -/
namespace Go.Proofs.YtgcfkljooabjjaaGreatDoor
open Go.RowKit Go.Op Go.Maps

/-- a name is struck -/
theorem NMat.rem {w : World} {b : Nat} {l : NameL} (h : NMat w b l) (p : ByteArray) (hp : p.size ≤ maxLen) (ty : TypeId) :
    ∃ w', (Builtin.delete_ #[95, 9] ty #[.map (some b), .string p]).run Tryz.prog w = .ok (.tuple #[]) w' ∧ NMat w' b (delN l p) ∧ w.grownBy w' (some b) := by
  obtain ⟨ha, D, hD, hs, hr⟩ := h
  obtain ⟨w', hrun, hown, ht⟩ := hD.drop strK Tryz.underlying95 (WideMaps.keyOf_string_mk Tryz.underlying9 hp) ty
  exact ⟨w', hrun, NMat.del ha hD hs hr p hown, ht.grown⟩
/-- a change of names alone -/
theorem turn_names {W wU : World} {p m : Nat} {G : Geo} {D : PDisk} {l : NameL} (hM : DiskM W p { G with nb := m } D) (hm : m ∉ G.rest) (hN : NMat wU m l) (hU : Off [m] W wU) :
    TurnP p m G { D with names := l } W (.returned (.tuple #[])) wU := by
  have hpm : p ≠ m := fun e => hM.far (by rw [e]; exact List.mem_cons_self ..)
  refine ⟨rfl, { G with nb := m }, rfl, rfl, ⟨hM.blk.off hU (by simpa using hpm), hM.parts.named hU (fun x hx h => ?_) hN hm⟩, hm, ?_, fun x hx => .inl hx⟩
  · simp at h; subst h; exact hm hx
  · exact hU.mono (fun x _ h => by simp at h; subst h; exact List.mem_cons_of_mem _ (List.mem_cons_self ..))
set_option maxRecDepth 100000 in
set_option maxHeartbeats 8000000 in
theorem repc_any (p m gp gq : Nat) (G : Geo) (D : PDisk) (path q : ByteArray) (W : World) (hM : DiskM W p { G with nb := m } D) (hm : m ∉ G.rest) (hn : D.names.length ≤ 1000000000) (hi : lookN D.names path ≤ 4611686018427387904) (hs : path.size ≤ maxLen) (hq : q.size ≤ maxLen)
    (hbp : Blk W gp 9 #[.string path]) (hbq : Blk W gq 9 #[.string q]) :
    Calls Tryz.prog 56 #[.map (some m), .pointer (some ⟨gp, 0, none⟩), .pointer (some ⟨gq, 0, none⟩)] W
      (TurnP p m G { D with names := delN (putN D.names q (lookN D.names path)) path } W) := by
  have hl := hM.parts.names.look path hs
  obtain ⟨w1, h1, hN1, hg1⟩ := hM.parts.names.add hn q hq (lookN D.names path : Int) (lookN D.names path) rfl hi
  obtain ⟨w2, h2, hN2, hg2⟩ := hN1.rem path hs 0
  have HM := Lib.hid hM
  have HMM := Lib.hid hm
  have HN2 := Lib.hid hN2
  have HG := Lib.hid (And.intro hg1 hg2)
  have hmb := hM.parts.names.isMap
  have hp1 := hbp.grown hg1 (fun e => hmb.ne hbp (by injection e with e; exact e.symm))
  have hcp := hbp.cell
  have hcq := hbq.cell
  have hcp1 := hp1.cell
  have hlp := hbp.lt
  have hlq := hbq.lt
  have hlp1 := hp1.lt
  generalize (lookN D.names path : Int) = ix at hl h1
  clear hM hm hN1 hN2 hg1 hg2 hmb hp1 hbp hbq hn hi hs hq
  go_enter Tryz.func56, Tryz.ntmps56
  go_wp2_with fail
  refine bodyPost_end (results_none rfl _ _ _) rfl ?_
  exact turn_names HM.out HMM.out HN2.out (((Off.refl [m] W).grown HG.out.1 (fun k hk => by cases hk; exact .inr (by simp))).grown HG.out.2 (fun k hk => by cases hk; exact .inr (by simp)))
theorem REPEN : ∀ args w, (callFunc 56 args).run Tryz.prog w = .ok (.enter 56 args) w := enters_of Tryz.func56 (by kernel_rfl) rfl
/-- a change of names, told by a closure -/
theorem DS.changed {w w' : World} {p n : Nat} {G : Geo} {D : PDisk} {l : NameL} (h : DS w p G D n) (hT : DiskTo w p G.parts w' { ({ D with names := l } : PDisk) with later := D.later ++ [l] }) (hk : Ok (D.change l) (n + 1)) : DSTo w p G.parts w' (D.change l) (n + 1) :=
  h.to (Off.refl _ _) hT hk
/-- a call that only reads: what it hands back, in whatever world comes behind w0 -/
structure Tells (f : FuncId) (args : Array Value) (w0 : World) (v : Value) : Prop where
  call : ∀ W, Off [] w0 W → Calls Tryz.prog f args W fun e w' => e = .returned v ∧ Off [] W w'
theorem tells_use {f : FuncId} {args : Array Value} {w0 W : World} {v : Value} (h : Tells f args w0 v) (ho : Off [] w0 W) : Calls Tryz.prog f args W fun e w' => e = .returned v ∧ Off [] W w' := h.call W ho
set_option maxRecDepth 100000 in
set_option maxHeartbeats 16000000 in
theorem dreplace_call (p n : Nat) (G : Geo) (D : PDisk) (path q : ByteArray) (w : World) (h : DS w p G D n) (hn : n ≤ 1000000) (hs : path.size ≤ 9223372036854775807) (hsq : q.size ≤ 9223372036854775807) :
    Calls Tryz.prog 18 #[.pointer (some ⟨p, 0, none⟩), .string path, .string q] w fun e w' => e = .returned (.int .i64 (D.replace path q).1) ∧ DSTo w p G.parts w' (D.replace path q).2 (n + 2) := by
  have H := Lib.hid h
  have HST := Lib.hid (fun (W : World) (ho : Off [] w W) => dstep_two p n G D ⟨#[82, 101, 112, 108, 97, 99, 101]⟩ path q W (h.off ho) hn)
  have HS := Lib.hid (show D.replace path q = match D.step ⟨#[82, 101, 112, 108, 97, 99, 101]⟩ path q with | (full, e, E) => if e ≠ 0 then (e, E) else E.replace_ path q from rfl)
  clear h
  generalize D.step ⟨#[82, 101, 112, 108, 97, 99, 101]⟩ path q = st at HST HS
  obtain ⟨full, er, E⟩ := st
  have HS := Lib.hid (show D.replace path q = if er ≠ 0 then (er, E) else E.replace_ path q from HS.out)
  go_enter Tryz.func18, Tryz.ntmps18
  go_upto_region 1 with fail
  refine code_gen (fun W => Blk W w.heap.size 9 #[.string path] ∧ Blk W (w.heap.size + 1) 9 #[.string q] ∧ Off [] w W ∧ w.heap.size + 1 < W.heap.size)
    ⟨(Blk.new w _ _).alloc _, Blk.new1 w _ _ _, ((Off.refl _ _).alloc _).alloc _, by simp⟩ ?_
  rintro W ⟨hbp, hbq, hof, hsz⟩
  have HBP := Lib.hid hbp
  have HBQ := Lib.hid hbq
  have HOF := Lib.hid hof
  have HSZ := Lib.hid hsz
  have hcp := hbp.cell
  have hcq := hbq.cell
  clear hbp hbq hof hsz
  go_wp2_with fail
  refine (HST.out W HOF.out).mono ?_
  rintro e w1 ⟨rfl, hT⟩
  have HT := Lib.hid hT
  clear hT HST hcp hcq
  by_cases h0 : er = 0
  · subst h0
    have HS2 := Lib.hid (show D.replace path q = E.replace_ path q by rw [HS.out]; simp)
    obtain ⟨G1, h1, ho1, hp1⟩ := HT.out
    have hno : ∀ b, w.heap.size ≤ b → b < W.heap.size → b ∉ p :: G.parts := fun b hb _ hm => by
      rcases List.mem_cons.1 hm with rfl | hm
      · have := H.out.m.blk.lt; omega
      · have := H.out.m.parts.lt hm; omega
    have hbp1 := HBP.out.off ho1 (hno _ (Nat.le_refl _) (by have := HSZ.out; omega))
    have hbq1 := HBQ.out.off ho1 (hno _ (by omega) HSZ.out)
    have HBP1 := Lib.hid hbp1
    have HBQ1 := Lib.hid hbq1
    have HOP := Lib.hid (And.intro (show Off (p :: G.parts) w w1 from (HOF.out.mono (fun _ _ h => by simp at h)).trans ho1 (fun _ _ h => h)) (show ∀ b ∈ G1.parts, b ∈ G.parts ∨ w.heap.size ≤ b from fun b hb => by
      rcases hp1 b hb with h | h
      · exact .inl h
      · exact .inr (Nat.le_trans HOF.out.size h)))
    obtain ⟨x1, hx1⟩ : ∃ x, PDisk.no path = x := ⟨_, rfl⟩
    obtain ⟨x2, hx2⟩ : ∃ x, PDisk.no q = x := ⟨_, rfl⟩
    obtain ⟨x3, hx3⟩ : ∃ x, E.gone path = x := ⟨_, rfl⟩
    obtain ⟨x5, hx5⟩ : ∃ x, E.parentE q = x := ⟨_, rfl⟩
    obtain ⟨dp, hdp⟩ : ∃ x, E.dir path = x := ⟨_, rfl⟩
    obtain ⟨dq, hdq⟩ : ∃ x, E.dir q = x := ⟨_, rfl⟩
    obtain ⟨b, hb⟩ : ∃ b, decide (path = q) = b := ⟨_, rfl⟩
    have hbe : (path.toList == q.toList) = b := by
      rw [← hb]
      by_cases hpq : path = q
      · rw [hpq]; simp
      · rw [decide_eq_false hpq]
        rw [toList_str, toList_str]
        exact beq_eq_false_iff_ne.2 (fun e => hpq (str_inj e))
    have HX := Lib.hid (show PDisk.no path = x1 ∧ PDisk.no q = x2 ∧ E.gone path = x3 ∧ E.parentE q = x5 ∧ E.dir path = dp ∧ E.dir q = dq ∧ decide (path = q) = b from ⟨hx1, hx2, hx3, hx5, hdp, hdq, hb⟩)
    have hdr : ∀ W, Off [] w1.drew W → Off [] w1 W := fun W ho => (Off.refl [] w1).drew.trans_nil ho
    have HN1 := Lib.hid (show Tells 49 #[.string path] w1.drew (.agg #[.bool x1.1, .int .i64 x1.2]) from ⟨fun W ho => by
      have := dno_any path W (h1.tabs.off (hdr W ho))
      rw [hx1] at this; exact this⟩)
    have HN2 := Lib.hid (show Tells 49 #[.string q] w1.drew (.agg #[.bool x2.1, .int .i64 x2.2]) from ⟨fun W ho => by
      have := dno_any q W (h1.tabs.off (hdr W ho))
      rw [hx2] at this; exact this⟩)
    have HGO := Lib.hid (show Tells 53 #[.pointer (some ⟨p, 0, none⟩), .string path] w1.drew (.agg #[.bool x3.1, .int .i64 x3.2]) from ⟨fun W ho => by
      have := dgone_any p G1 E path W (h1.m.off (hdr W ho) (by simp) (by simp)) (by unfold maxLen; omega) (h1.ok.look (by omega) path)
      rw [hx3] at this; exact this⟩)
    have HPA := Lib.hid (show Tells 50 #[.pointer (some ⟨p, 0, none⟩), .string q] w1.drew (.agg #[.bool x5.1, .int .i64 x5.2]) from ⟨fun W ho => by
      have := dparent_big p G1 E q W (h1.m.off (hdr W ho) (by simp) (by simp)) hsq (fun x => h1.ok.look (by omega) x) (h1.tabs.off (hdr W ho))
      rw [hx5] at this; exact this⟩)
    have HDP := Lib.hid (show Tells 54 #[.pointer (some ⟨p, 0, none⟩), .string path] w1.drew (.bool dp) from ⟨fun W ho => ddir_v p G1 E path W (h1.m.off (hdr W ho) (by simp) (by simp)) (by unfold maxLen; omega) (h1.ok.look (by omega) path) dp hdp⟩)
    have HDQ := Lib.hid (show Tells 54 #[.pointer (some ⟨p, 0, none⟩), .string q] w1.drew (.bool dq) from ⟨fun W ho => ddir_v p G1 E q W (h1.m.off (hdr W ho) (by simp) (by simp)) (by unfold maxLen; omega) (h1.ok.look (by omega) q) dq hdq⟩)
    clear hdr
    have H1 := Lib.hid h1
    have HRP := Lib.hid (show E.replace_ path q = if firstE [x1, x2, (b, 2), x3, (dp || dq, 73), x5] ≠ 0 then (firstE [x1, x2, (b, 2), x3, (dp || dq, 73), x5], E) else (0, E.change (delN (putN E.names q (lookN E.names path)) path)) by
      unfold PDisk.replace_
      rw [hx1, hx2, hx3, hx5, hdp, hdq, hb])
    clear HS hx1 hx2 hx3 hx5 hdp hdq hb h1 ho1 hp1 hno hbp1 hbq1
    go_wp2_with fail
    go_cut [9] from 21 to 45 (fun s wx => s = .int .i64 (firstE [x1, x2, (b, 2), x3, (dp || dq, 73), x5]) ∧ Off [] w1 wx)
    case first =>
      have hch := Off.refl [] w1.drew
      have hB := HBP1.out.drew
      have hC := HBQ1.out.drew
      cases dp
      · go_region_held3 (fun w' => (∀ i, w'.cell? ⟨w.heap.size, i, none⟩ = (#[.string path] : Array Value)[i]?) ∧ (∀ i, w'.cell? ⟨w.heap.size + 1, i, none⟩ = (#[.string q] : Array Value)[i]?)) (first | assumption | exact ⟨hB.cell, hC.cell⟩ | exact ⟨(hB.alloc _).cell, (hC.alloc _).cell⟩) (first
          | (go_at_call 49; refine (tells_use (by exact HN1.out) hch).mono ?_; rintro e wA ⟨rfl, hoA⟩; have hch := hch.trans_nil hoA; have hB := hB.off hoA (by simp); have hC := hC.off hoA (by simp))
          | (go_at_call 49; refine (tells_use (by exact HN2.out) hch).mono ?_; rintro e wB ⟨rfl, hoB⟩; have hch := hch.trans_nil hoB; have hB := hB.off hoB (by simp); have hC := hC.off hoB (by simp))
          | (go_at_call 53; refine (tells_use (by exact HGO.out) hch).mono ?_; rintro e wC ⟨rfl, hoC⟩; have hch := hch.trans_nil hoC; have hB := hB.off hoC (by simp); have hC := hC.off hoC (by simp))
          | (go_at_call 54; refine (tells_use (by exact HDP.out) hch).mono ?_; rintro e wD ⟨rfl, hoD⟩; have hch := hch.trans_nil hoD; have hB := hB.off hoD (by simp); have hC := hC.off hoD (by simp))
          | (go_at_call 54; refine (tells_use (by exact HDQ.out) hch).mono ?_; rintro e wE ⟨rfl, hoE⟩; have hch := hch.trans_nil hoE; have hB := hB.off hoE (by simp); have hC := hC.off hoE (by simp))
          | (go_at_call 50; refine (tells_use (by exact HPA.out) hch).mono ?_; rintro e wF ⟨rfl, hoF⟩; have hch := hch.trans_nil hoF; have hB := hB.off hoF (by simp); have hC := hC.off hoF (by simp))
          | (go_at_call 52; refine (dfirst_any _ 6 6 [x1, x2, (b, 2), x3, (dq, 73), x5] _ (rsns_new _ [x1, x2, (b, 2), x3, (dq, 73), x5] _ rfl) rfl (by omega)).mono ?_; rintro e wG ⟨rfl, hoG⟩; have hch := (hch.alloc _).trans_nil hoG; have hB := (hB.alloc _).off hoG (by simp); have hC := (hC.alloc _).off hoG (by simp)))
        have hoe := (Off.refl [] w1).drew.trans_nil hch
        clear hch hB hC
        go_wp2_with fail
        go_meet
        exact ⟨rfl, hoe⟩
      · refine wp_region_held_drew (S := fun w' => (∀ i, w'.cell? ⟨w.heap.size, i, none⟩ = (#[.string path] : Array Value)[i]?) ∧ (∀ i, w'.cell? ⟨w.heap.size + 1, i, none⟩ = (#[.string q] : Array Value)[i]?)) (by kernel_rfl) ⟨hB.cell, hC.cell⟩ (fun hHeld => ?_)
        refine wpAnyH_take (i := 0) (v := ?_) rfl (by kernel_rfl) (by kernel_rfl) (by kernel_rfl) (fun _ _ _ h => h) (Or.inl ⟨by rfl, ?_⟩) (by assumption) ?_
        rotate_left
        · intro w hSw
          try dsimp only at hSw
          go_simp
          try with_reducible rfl
        try simp only [Act.put, List.setIfInBounds_toArray]
        refine wpAnyH_take (i := 2) (v := ?_) rfl (by kernel_rfl) (by kernel_rfl) (by kernel_rfl) (fun _ _ _ h => h) (Or.inl ⟨by rfl, ?_⟩) (by assumption) ?_
        rotate_left
        · intro w hSw
          try dsimp only at hSw
          go_simp
          try with_reducible rfl
        try simp only [Act.put]
        refine wpAnyH_take (i := 4) (v := ?_) rfl (by kernel_rfl) (by kernel_rfl) (by kernel_rfl) (fun _ _ _ h => h) (Or.inl ⟨by rfl, ?_⟩) (by assumption) ?_
        rotate_left
        · intro w hSw
          try dsimp only at hSw
          go_simp
          try with_reducible rfl
        try simp only [Act.put]
        refine wpAnyH_take (i := 5) (v := ?_) rfl (by kernel_rfl) (by kernel_rfl) (by kernel_rfl) (fun _ _ _ h => h) (Or.inl ⟨by rfl, ?_⟩) (by assumption) ?_
        rotate_left
        · intro w hSw
          try dsimp only at hSw
          go_simp
          try with_reducible rfl
        try simp only [Act.put]
        refine wpAnyH_take (i := 6) (v := ?_) rfl (by kernel_rfl) (by kernel_rfl) (by kernel_rfl) (fun _ _ _ h => h) (Or.inl ⟨by rfl, ?_⟩) (by assumption) ?_
        rotate_left
        · intro w hSw
          try dsimp only at hSw
          go_simp
          try with_reducible rfl
        try simp only [Act.put]
        refine wpAnyH_take (i := 7) (v := ?_) rfl (by kernel_rfl) (by kernel_rfl) (by kernel_rfl) (fun _ _ _ h => h) (Or.inl ⟨by rfl, ?_⟩) (by assumption) ?_
        rotate_left
        · intro w hSw
          try dsimp only at hSw
          go_simp
          try with_reducible rfl
        try simp only [Act.put]
        refine wpAnyH_take (i := 8) (v := ?_) rfl (by kernel_rfl) (by kernel_rfl) (by kernel_rfl) (fun _ _ _ h => h) (Or.inl ⟨by rfl, ?_⟩) (by assumption) ?_
        rotate_left
        · intro w hSw
          try dsimp only at hSw
          go_simp
          try with_reducible rfl
        try simp only [Act.put]
        refine wpAnyH_take (i := 9) (v := ?_) rfl (by kernel_rfl) (by kernel_rfl) (by kernel_rfl) (fun _ _ _ h => h) (Or.inl ⟨by rfl, ?_⟩) (by assumption) ?_
        rotate_left
        · intro w hSw
          try dsimp only at hSw
          go_simp
          try with_reducible rfl
        try simp only [Act.put]
        refine wpAnyH_take (i := 11) (v := ?_) rfl (by kernel_rfl) (by kernel_rfl) (by kernel_rfl) (fun _ _ _ h => h) (Or.inl ⟨by rfl, ?_⟩) (by assumption) ?_
        rotate_left
        · intro w hSw
          try dsimp only at hSw
          go_simp
          try with_reducible rfl
        try simp only [Act.put]
        refine wpAnyH_take (i := 12) (v := ?_) rfl (by kernel_rfl) (by kernel_rfl) (by kernel_rfl) (fun _ _ _ h => h) (Or.inl ⟨by rfl, ?_⟩) (by assumption) ?_
        rotate_left
        · intro w hSw
          try dsimp only at hSw
          go_simp
          try with_reducible rfl
        try simp only [Act.put]
        refine wpAnyH_take (i := 20) (v := ?_) rfl (by kernel_rfl) (by kernel_rfl) (by kernel_rfl) (fun _ _ _ h => h) (Or.inl ⟨by rfl, ?_⟩) (by assumption) ?_
        rotate_left
        · intro w hSw
          try dsimp only at hSw
          go_simp
          try with_reducible rfl
        try simp only [Act.put]
        refine wpAnyH_take (i := 21) (v := ?_) rfl (by kernel_rfl) (by kernel_rfl) (by kernel_rfl) (fun _ _ _ h => h) (Or.inl ⟨by rfl, ?_⟩) (by assumption) ?_
        rotate_left
        · intro w hSw
          try dsimp only at hSw
          go_simp
          try with_reducible rfl
        try simp only [Act.put]
        refine wpAnyH_ready (rs := [1]) (by kernel_rfl) (by simp) ?_
        refine AllReadyH.cons rfl (fun K hK => ?_) AllReadyH.nil
        go_simp
        refine (tells_use (by exact HN1.out) hch).mono ?_; rintro e wA ⟨rfl, hoA⟩; have hch := hch.trans_nil hoA; have hB := hB.off hoA (by simp); have hC := hC.off hoA (by simp)
        refine hK.out _ _ ?_ (fun hHeld => ?_)
        · exact ⟨hB.cell, hC.cell⟩
        clear hK K
        try simp only [Act.put, List.setIfInBounds_toArray, List.set_cons_zero, List.set_cons_succ]
        refine wpAnyH_ready (rs := [3]) (by kernel_rfl) (by simp) ?_
        refine AllReadyH.cons rfl (fun K hK => ?_) AllReadyH.nil
        go_simp
        refine (tells_use (by exact HN2.out) hch).mono ?_; rintro e wB ⟨rfl, hoB⟩; have hch := hch.trans_nil hoB; have hB := hB.off hoB (by simp); have hC := hC.off hoB (by simp)
        refine hK.out _ _ ?_ (fun hHeld => ?_)
        · exact ⟨hB.cell, hC.cell⟩
        clear hK K
        try simp only [Act.put, List.setIfInBounds_toArray, List.set_cons_zero, List.set_cons_succ]
        refine wpAnyH_ready (rs := [10]) (by kernel_rfl) (by simp) ?_
        refine AllReadyH.cons rfl (fun K hK => ?_) AllReadyH.nil
        go_simp
        refine (tells_use (by exact HGO.out) hch).mono ?_; rintro e wC ⟨rfl, hoC⟩; have hch := hch.trans_nil hoC; have hB := hB.off hoC (by simp); have hC := hC.off hoC (by simp)
        refine hK.out _ _ ?_ (fun hHeld => ?_)
        · exact ⟨hB.cell, hC.cell⟩
        clear hK K
        try simp only [Act.put, List.setIfInBounds_toArray, List.set_cons_zero, List.set_cons_succ]
        refine wpAnyH_ready (rs := [13]) (by kernel_rfl) (by simp) ?_
        refine AllReadyH.cons rfl (fun K hK => ?_) AllReadyH.nil
        go_simp
        refine (tells_use (by exact HDP.out) hch).mono ?_; rintro e wD ⟨rfl, hoD⟩; have hch := hch.trans_nil hoD; have hB := hB.off hoD (by simp); have hC := hC.off hoD (by simp)
        refine hK.out _ _ ?_ (fun hHeld => ?_)
        · exact ⟨hB.cell, hC.cell⟩
        clear hK K
        try simp only [Act.put, List.setIfInBounds_toArray, List.set_cons_zero, List.set_cons_succ]
        refine wpAnyH_take (i := 14) (v := ?_) rfl (by kernel_rfl) (by kernel_rfl) (by kernel_rfl) (fun _ _ _ h => h) (Or.inl ⟨by rfl, ?_⟩) (by assumption) ?_
        rotate_left
        · intro w hSw
          try dsimp only at hSw
          go_simp
          try with_reducible rfl
        try simp only [Act.put, List.setIfInBounds_toArray]
        refine wpAnyH_take (i := 15) (v := undef) rfl (by kernel_rfl) (by kernel_rfl) (by kernel_rfl) (fun _ _ _ h => h) (Or.inr ⟨by rfl, rfl⟩) (by assumption) ?_
        try simp only [Act.put]
        refine wpAnyH_take (i := 16) (v := undef) rfl (by kernel_rfl) (by kernel_rfl) (by kernel_rfl) (fun _ _ _ h => h) (Or.inr ⟨by rfl, rfl⟩) (by assumption) ?_
        try simp only [Act.put]
        refine wpAnyH_take (i := 17) (v := undef) rfl (by kernel_rfl) (by kernel_rfl) (by kernel_rfl) (fun _ _ _ h => h) (Or.inr ⟨by rfl, rfl⟩) (by assumption) ?_
        try simp only [Act.put]
        refine wpAnyH_take (i := 18) (v := ?_) rfl (by kernel_rfl) (by kernel_rfl) (by kernel_rfl) (fun _ _ _ h => h) (Or.inl ⟨by rfl, ?_⟩) (by assumption) ?_
        rotate_left
        · intro w hSw
          try dsimp only at hSw
          go_simp
          try with_reducible rfl
        try simp only [Act.put]
        refine wpAnyH_take (i := 19) (v := ?_) rfl (by kernel_rfl) (by kernel_rfl) (by kernel_rfl) (fun _ _ _ h => h) (Or.inl ⟨by rfl, ?_⟩) (by assumption) ?_
        rotate_left
        · intro w hSw
          try dsimp only at hSw
          go_simp
          try with_reducible rfl
        try simp only [Act.put]
        refine wpAnyH_ready (rs := [22]) (by kernel_rfl) (by simp) ?_
        refine AllReadyH.cons rfl (fun K hK => ?_) AllReadyH.nil
        go_simp
        refine (tells_use (by exact HPA.out) hch).mono ?_; rintro e wF ⟨rfl, hoF⟩; have hch := hch.trans_nil hoF; have hB := hB.off hoF (by simp); have hC := hC.off hoF (by simp)
        refine hK.out _ _ ?_ (fun hHeld => ?_)
        · exact ⟨hB.cell, hC.cell⟩
        clear hK K
        try simp only [Act.put, List.setIfInBounds_toArray, List.set_cons_zero, List.set_cons_succ]
        refine wpAnyH_ready (rs := [23]) (by kernel_rfl) (by simp) ?_
        refine AllReadyH.cons rfl (fun K hK => ?_) AllReadyH.nil
        go_simp
        refine hK.out _ _ ?_ (fun hHeld => ?_)
        · exact ⟨(hB.alloc _).cell, (hC.alloc _).cell⟩
        clear hK K
        try simp only [Act.put, List.setIfInBounds_toArray, List.set_cons_zero, List.set_cons_succ]
        refine wpAnyH_ready (rs := [24]) (by kernel_rfl) (by simp) ?_
        refine AllReadyH.cons rfl (fun K hK => ?_) AllReadyH.nil
        go_simp
        refine (dfirst_any _ 6 6 [x1, x2, (b, 2), x3, (true, 73), x5] _ (rsns_new _ [x1, x2, (b, 2), x3, (true, 73), x5] _ rfl) rfl (by omega)).mono ?_; rintro e wG ⟨rfl, hoG⟩; have hch := (hch.alloc _).trans_nil hoG; have hB := (hB.alloc _).off hoG (by simp); have hC := (hC.alloc _).off hoG (by simp)
        refine hK.out _ _ ?_ (fun hHeld => ?_)
        · exact ⟨hB.cell, hC.cell⟩
        clear hK K
        try simp only [Act.put, List.setIfInBounds_toArray, List.set_cons_zero, List.set_cons_succ]
        refine wpAnyH_ready (rs := [25]) (by kernel_rfl) (by simp) ?_
        refine AllReadyH.cons rfl (fun K hK => ?_) AllReadyH.nil
        go_simp
        refine hK.out _ _ ?_ (fun hHeld => ?_)
        · exact ⟨hB.cell, hC.cell⟩
        clear hK K
        try simp only [Act.put, List.setIfInBounds_toArray, List.set_cons_zero, List.set_cons_succ]
        refine wpAnyH_done (by kernel_rfl) ?_ _
        have hoe := (Off.refl [] w1).drew.trans_nil hch
        clear hch hB hC
        go_wp2_with fail
        go_meet
        exact ⟨rfl, hoe⟩
    case rest =>
      obtain ⟨rfl, hox⟩ := hcut
      have HOX := Lib.hid hox
      have HD2 := Lib.hid (H1.out.off hox)
      obtain ⟨v, hv⟩ : ∃ v, firstE [x1, x2, (b, 2), x3, (dp || dq, 73), x5] = v := ⟨_, rfl⟩
      rw [hv] at HRP ⊢
      have HV := Lib.hid hv
      clear hox hv hbe
      by_cases hv0 : v = 0
      · subst hv0
        have HF := Lib.hid (show D.replace path q = (0, E.change (delN (putN E.names q (lookN E.names path)) path)) by rw [HS2.out, HRP.out]; simp)
        have HOK := Lib.hid (show Ok (E.change (delN (putN E.names q (lookN E.names path)) path)) (n + 1 + 1) from by
          have h3 := PDisk.replace__ok H1.out.ok path q
          rw [HRP.out] at h3
          simpa using h3)
        have HTN := Lib.hid (fun (W1 : World) (hW1 : DiskM W1 p { G1 with nb := wc.heap.size } E) (ho1 : Off [p] wc W1) =>
          show Calls Tryz.prog 56 (#[.map (some wc.heap.size)] ++ #[.pointer (some ⟨w.heap.size, 0, none⟩), .pointer (some ⟨w.heap.size + 1, 0, none⟩)]) W1 (TurnP p wc.heap.size G1 { E with names := delN (putN E.names q (lookN E.names path)) path } W1) from
          repc_any p wc.heap.size w.heap.size (w.heap.size + 1) G1 E path q W1 hW1 (fun h => Nat.lt_irrefl _ (HD2.out.m.parts.lt (List.mem_cons_of_mem _ h))) (by have := HD2.out.ok.nlen; omega) (HD2.out.ok.look (by omega) path) (by unfold maxLen; omega) (by unfold maxLen; omega)
            ((HBP1.out.off HOX.out (by simp)).off ho1 (by have := H.out.m.blk.lt; simp; omega)) ((HBQ1.out.off HOX.out (by simp)).off ho1 (by have := H.out.m.blk.lt; simp; omega)))
        have HCH := Lib.hid (dchange_any p G1 E { E with names := delN (putN E.names q (lookN E.names path)) path } 56 #[.pointer (some ⟨w.heap.size, 0, none⟩), .pointer (some ⟨w.heap.size + 1, 0, none⟩)] wc HD2.out.m HD2.out.sb (by have := HD2.out.ok.llen; show E.later.length ≤ _; omega) REPEN HTN.out)
        clear HRP
        go_wp2_with fail
        refine HCH.out.mono ?_
        rintro e w7 ⟨rfl, hT⟩
        have HT7 := Lib.hid hT
        clear hT
        go_wp2_with fail
        go_ret
        rw [HF.out]
        exact ⟨rfl, DSTo.step (HOP.out.1.trans_nil HOX.out) HOP.out.2 (HD2.out.changed HT7.out HOK.out)⟩
      · have HF := Lib.hid (show D.replace path q = (v, E) by rw [HS2.out, HRP.out, if_pos hv0])
        have hne : (v == 0) = false := beq_eq_false_iff_ne.2 hv0
        clear hv0 HRP
        go_wp2_with fail
        go_ret
        rw [HF.out]
        exact ⟨rfl, DSTo.step (HOP.out.1.trans_nil HOX.out) HOP.out.2 (HD2.out.refl.le (by omega))⟩
  · have HS2 := Lib.hid (show D.replace path q = (er, E) by rw [HS.out, if_pos h0])
    have hne : (er == 0) = false := beq_eq_false_iff_ne.2 h0
    clear h0
    go_wp2_with fail
    go_ret
    rw [HS2.out]
    obtain ⟨G1, h1, ho1, hp1⟩ := HT.out
    refine ⟨rfl, DSTo.step (G1 := G1) ((HOF.out.mono (fun _ _ h => by simp at h)).trans ho1 (fun _ _ h => h)) (fun b hb => ?_) (h1.refl.le (by omega))⟩
    rcases hp1 b hb with h | h
    · exact .inl h
    · exact .inr (Nat.le_trans HOF.out.size h)
end Go.Proofs.YtgcfkljooabjjaaGreatDoor

/- name.Order, and what it leaves of the world: nothing but draws. Conditions: no string is longer than Go's strings can be. -/
namespace Go.Proofs.YtgcfkljooabjjaaGreatDoor
open Go.RowKit Go.Op

theorem cut_dr (s : ByteArray) (w : World) (hs : s.size ≤ maxLen) :
    Calls Tryz.prog 121 #[.string s, .string ⟨#[47]⟩] w fun e w' => e = .returned (.tuple #[.string (headOf s), .string (restOf s), .bool (moreOf s)]) ∧ ∃ n, w' = w.drewN n := by
  rcases slash_cases s with ⟨h, _⟩ | ⟨i, h, hi, _, _⟩
  · refine (cut_none s w h).mono fun e w' ⟨he, hw⟩ => ⟨?_, ⟨0, hw.symm⟩⟩
    rw [he, headOf, restOf, moreOf, h]
    rfl
  · refine (cut_some s i w h hi hs).mono fun e w' ⟨he, n, hw⟩ => ⟨?_, ⟨n, hw⟩⟩
    rw [he, headOf, restOf, moreOf, h]
set_option maxRecDepth 100000 in
set_option maxHeartbeats 4000000 in
theorem order_dr (a b : ByteArray) (w : World) (ha : a.size ≤ maxLen) (hb : b.size ≤ maxLen) :
    Calls Tryz.prog 87 #[.string a, .string b] w fun e w' => e = .returned (.int .i64 (order (str a) (str b))) ∧ ∃ n, w' = w.drewN n := by
  go_enter Tryz.func87, Tryz.ntmps87
  go_wp2_with fail
  go_loopw [0, 1] (fun x y wr => ∃ a' b' : ByteArray, x = .string a' ∧ y = .string b' ∧ a'.size ≤ maxLen ∧ b'.size ≤ maxLen ∧ (∃ n, wr = w.drewN n) ∧ order (str a) (str b) = order (str a') (str b')) (fun x _ _ => lenOf x)
  case atStart => exact ⟨a, b, rfl, rfl, ha, hb, ⟨0, rfl⟩, rfl⟩
  case round =>
    obtain ⟨a', b', rfl, rfl, ha', hb', ho, hord⟩ := hrel
    have HO := Lib.hid hord
    clear hord
    by_cases hab : a' = b'
    · subst hab
      go_wp2_with fail
      go_ret
      exact ⟨by rw [HO.out, order_self]; rfl, ho⟩
    · have hne : (a'.toList == b'.toList) = false := by
        rw [toList_str, toList_str]
        exact beq_eq_false_iff_ne.2 (fun e => hab (str_inj e))
      have HS := Lib.hid (fun e : str a' = str b' => hab (str_inj e))
      have hca := cut_parts a'
      have hcb := cut_parts b'
      have HA := Lib.hid hca
      have HB := Lib.hid hcb
      clear hca hcb hab
      go_wp2_with fail
      refine (cut_dr a' _ ha').mono ?_
      rintro e w1 ⟨rfl, ho1⟩
      go_wp2_with fail
      refine (cut_dr b' _ hb').mono ?_
      rintro e w2 ⟨rfl, ho2⟩
      go_wp2_with fail
      refine (cmp_any _ _ _).mono ?_
      rintro e w3 ⟨rfl, e3⟩
      subst e3
      have hoff : ∃ n, w2 = w.drewN n := by
        obtain ⟨n0, e0⟩ := ho; obtain ⟨n1, e1⟩ := ho1; obtain ⟨n2, e2⟩ := ho2
        exact ⟨n0 + n1 + n2, by rw [e2, e1, e0]; simp [World.drewN, Nat.add_assoc]⟩
      clear ho ho1 ho2
      have hunf : order (str a') (str b') = cmpN (parts (str a')) (parts (str b')) := rfl
      have HU := Lib.hid hunf
      clear hunf
      by_cases hc : Lib.compareBytes (str (headOf a')) (str (headOf b')) = 0
      · rw [hc]
        have HC := Lib.hid hc
        clear hc
        rcases HA.out with ⟨m1, p1, q1⟩ | ⟨m1, p1, q1⟩
        · rcases HB.out with ⟨m2, p2, q2⟩ | ⟨m2, p2, q2⟩
          · exact absurd (cmpB_eq (q1 ▸ q2 ▸ HC.out)) (fun e => HS.out e)
          · have P1 := Lib.hid p1
            have P2 := Lib.hid p2
            clear p1 p2 m2 q1
            go_wp2_with fail
            go_ret
            refine ⟨?_, hoff⟩
            rw [HO.out, HU.out, P1.out, P2.out, cmpN, if_pos HC.out]
            have := parts_ne (str (restOf b'))
            cases hh : parts (str (restOf b')) with
            | nil => exact absurd hh this
            | cons _ _ => rfl
        · rcases HB.out with ⟨m2, p2, q2⟩ | ⟨m2, p2, q2⟩
          · have P1 := Lib.hid p1
            have P2 := Lib.hid p2
            clear p1 p2 q2
            go_wp2_with fail
            go_ret
            refine ⟨?_, hoff⟩
            rw [HO.out, HU.out, P1.out, P2.out, cmpN, if_pos HC.out]
            have := parts_ne (str (restOf a'))
            cases hh : parts (str (restOf a')) with
            | nil => exact absurd hh this
            | cons _ _ => rfl
          · have P1 := Lib.hid p1
            have P2 := Lib.hid p2
            clear p1 p2
            go_wp2_with fail
            refine ⟨⟨restOf a', restOf b', rfl, rfl, by omega, by omega, hoff, ?_⟩, ?_⟩
            · rw [HO.out, HU.out, P1.out, P2.out, cmpN, if_pos HC.out]; rfl
            · simp only [lenOf]; omega
      · have hv : order (str a') (str b') = Lib.compareBytes (str (headOf a')) (str (headOf b')) := by
          rw [HU.out]
          rcases HA.out with ⟨m1, p1, q1⟩ | ⟨m1, p1, q1⟩ <;> rcases HB.out with ⟨m2, p2, q2⟩ | ⟨m2, p2, q2⟩ <;> rw [p1, p2, cmpN, if_neg hc]
        have HV := Lib.hid hv
        clear hv
        generalize Lib.compareBytes (str (headOf a')) (str (headOf b')) = c at *
        have hc0 : (c == 0) = false := beq_eq_false_iff_ne.2 hc
        go_wp2_with fail
        go_ret
        exact ⟨by rw [HO.out, HV.out]; rfl, hoff⟩
end Go.Proofs.YtgcfkljooabjjaaGreatDoor

/-
  DERIVED: THE SHELF's CONTRACTS AT THIS DUMP, IN PLAIN WORDS (tools/lay-plain.mjs out of 'TryzSort.lean', which tools/lay-shelf.mjs wrote): THE SAME DECLARATIONS UNDER THE SAME NAMES: 'import', 'namespace', 'open', 'def', 'theorem' AND NOTHING ELSE: no command of the shelf's: FOR A HAND-IN. Each laying: the table of numbers ('.._ren') and one theorem, a field a fact of the dump's own or the kernel's comparison; each contract: ONE APPLICATION.
-/
namespace Go.Proofs
open Go.Shelf
def Tryz.sort6_ren : Go.Shelf.Ren := ⟨fun | 6 => 130 | 15 => 152 | 14 => 151 | 28 => 171 | 29 => 172 | 20 => 163 | 21 => 164 | 22 => 165 | 23 => 166 | 24 => 167 | 25 => 168 | 26 => 169 | 27 => 170 | 46 => 184 | 47 => 185 | 48 => 186 | 49 => 187 | 50 => 188 | 57 => 193 | n => n, fun | 22 => 47 | 24 => 9 | 25 => 130 | 3 => 3 | 39 => 181 | 0 => 0 | 53 => 203 | 55 => 205 | 4 => 4 | 46 => 197 | 45 => 196 | 50 => 151 | 5 => 5 | 9 => 9 | 66 => 216 | 70 => 220 | 76 => 226 | 77 => 192 | n => n, fun | n => n⟩
theorem Tryz.sort6 : Go.Proofs.SlLaysF.n6 Tryz.prog Tryz.sort6_ren := {
  mixed := by kernel_rfl
  f6 := ⟨Tryz.f130.name, by decide, Tryz.func130.trans (congrArg some (by kernel_rfl))⟩
  f14 := ⟨Tryz.f151.name, by decide, Tryz.func151.trans (congrArg some (by kernel_rfl))⟩
  f15 := Tryz.func152.trans (congrArg some (by kernel_rfl))
  f20 := ⟨Tryz.f163.name, by decide, Tryz.func163.trans (congrArg some (by kernel_rfl))⟩
  f21 := ⟨Tryz.f164.name, by decide, Tryz.func164.trans (congrArg some (by kernel_rfl))⟩
  f22 := ⟨Tryz.f165.name, by decide, Tryz.func165.trans (congrArg some (by kernel_rfl))⟩
  f23 := ⟨Tryz.f166.name, by decide, Tryz.func166.trans (congrArg some (by kernel_rfl))⟩
  f24 := ⟨Tryz.f167.name, by decide, Tryz.func167.trans (congrArg some (by kernel_rfl))⟩
  f25 := ⟨Tryz.f168.name, by decide, Tryz.func168.trans (congrArg some (by kernel_rfl))⟩
  f26 := ⟨Tryz.f169.name, by decide, Tryz.func169.trans (congrArg some (by kernel_rfl))⟩
  f27 := ⟨Tryz.f170.name, by decide, Tryz.func170.trans (congrArg some (by kernel_rfl))⟩
  f28 := Tryz.func171.trans (congrArg some (by kernel_rfl))
  f29 := Tryz.func172.trans (congrArg some (by kernel_rfl))
  f46 := ⟨Tryz.f184.name, by decide, Tryz.func184.trans (congrArg some (by kernel_rfl))⟩
  f47 := Tryz.func185.trans (congrArg some (by kernel_rfl))
  f48 := Tryz.func186.trans (congrArg some (by kernel_rfl))
  f49 := ⟨Tryz.f187.name, by decide, Tryz.func187.trans (congrArg some (by kernel_rfl))⟩
  f50 := ⟨Tryz.f188.name, by decide, Tryz.func188.trans (congrArg some (by kernel_rfl))⟩
  f57 := ⟨Tryz.f193.name, by decide, Tryz.func193.trans (congrArg some (by kernel_rfl))⟩
  t0 := Tryz.underlying0
  a0 := Tryz.isAgg0
  z0 := Tryz.sizeOf0
  v0 := Tryz.zeroValue0
  t3 := Tryz.underlying3
  a3 := Tryz.isAgg3
  z3 := Tryz.sizeOf3
  v3 := Tryz.zeroValue3
  t4 := Tryz.underlying4
  a4 := Tryz.isAgg4
  z4 := Tryz.sizeOf4
  v4 := Tryz.zeroValue4
  t5 := Tryz.underlying5
  a5 := Tryz.isAgg5
  z5 := Tryz.sizeOf5
  v5 := Tryz.zeroValue5
  t9 := Tryz.underlying9
  a9 := Tryz.isAgg9
  z9 := Tryz.sizeOf9
  v9 := Tryz.zeroValue9
  t22 := Tryz.underlying47
  a22 := Tryz.isAgg47
  z22 := Tryz.sizeOf47
  v22 := Tryz.zeroValue47
  a24 := Tryz.isAgg9
  z24 := Tryz.sizeOf9
  t25 := Tryz.underlying130
  a25 := Tryz.isAgg130
  z25 := Tryz.sizeOf130
  v25 := Tryz.zeroValue130
  t39 := Tryz.underlying181
  a39 := Tryz.isAgg181
  z39 := Tryz.sizeOf181
  v39 := Tryz.zeroValue181
  t45 := Tryz.underlying196
  a45 := Tryz.isAgg196
  z45 := Tryz.sizeOf196
  v45 := Tryz.zeroValue196
  t46 := Tryz.underlying197
  a46 := Tryz.isAgg197
  z46 := Tryz.sizeOf197
  v46 := Tryz.zeroValue197
  t50 := Tryz.underlying151
  a50 := Tryz.isAgg151
  z50 := Tryz.sizeOf151
  v50 := Tryz.zeroValue151
  t53 := Tryz.underlying203
  a53 := Tryz.isAgg203
  z53 := Tryz.sizeOf203
  v53 := Tryz.zeroValue203
  t55 := Tryz.underlying205
  a55 := Tryz.isAgg205
  z55 := Tryz.sizeOf205
  v55 := Tryz.zeroValue205
  t66 := Tryz.underlying216
  a66 := Tryz.isAgg216
  z66 := Tryz.sizeOf216
  v66 := Tryz.zeroValue216
  t70 := Tryz.underlying220
  a70 := Tryz.isAgg220
  z70 := Tryz.sizeOf220
  v70 := Tryz.zeroValue220
  t76 := Tryz.underlying226
  a76 := Tryz.isAgg226
  z76 := Tryz.sizeOf226
  v76 := Tryz.zeroValue226
  t77 := Tryz.underlying192
  a77 := Tryz.isAgg192
  z77 := Tryz.sizeOf192
  v77 := Tryz.zeroValue192 }
def Tryz.keys7_ren : Go.Shelf.Ren := ⟨fun | 7 => 97 | 10 => 131 | n => n, fun | 23 => 95 | 26 => 9 | 3 => 3 | 28 => 148 | 0 => 0 | 27 => 147 | 33 => 118 | 4 => 4 | n => n, fun | n => n⟩
theorem Tryz.keys7 : Go.Proofs.SlLaysZ.n7 Tryz.prog Tryz.keys7_ren := {
  mixed := by kernel_rfl
  f7 := ⟨Tryz.f97.name, by decide, Tryz.func97.trans (congrArg some (by kernel_rfl))⟩
  f10 := ⟨Tryz.f131.name, by decide, Tryz.func131.trans (congrArg some (by kernel_rfl))⟩
  t0 := Tryz.underlying0
  a0 := Tryz.isAgg0
  z0 := Tryz.sizeOf0
  v0 := Tryz.zeroValue0
  t4 := Tryz.underlying4
  a4 := Tryz.isAgg4
  z4 := Tryz.sizeOf4
  v4 := Tryz.zeroValue4
  t23 := Tryz.underlying95
  a23 := Tryz.isAgg95
  z23 := Tryz.sizeOf95
  v23 := Tryz.zeroValue95
  t26 := Tryz.underlying9
  a26 := Tryz.isAgg9
  z26 := Tryz.sizeOf9
  v26 := Tryz.zeroValue9
  t27 := Tryz.underlying147
  a27 := Tryz.isAgg147
  z27 := Tryz.sizeOf147
  v27 := Tryz.zeroValue147
  t28 := Tryz.underlying148
  a28 := Tryz.isAgg148
  z28 := Tryz.sizeOf148
  v28 := Tryz.zeroValue148
  t33 := Tryz.underlying118
  a33 := Tryz.isAgg118
  z33 := Tryz.sizeOf118
  v33 := Tryz.zeroValue118 }
def Tryz.coll8_ren : Go.Shelf.Ren := ⟨fun | 8 => 129 | 11 => 150 | n => n, fun | 26 => 9 | 28 => 148 | 24 => 47 | 0 => 0 | 33 => 118 | 4 => 4 | n => n, fun | n => n⟩
theorem Tryz.coll8 : Go.Proofs.SlLaysZ.n8 Tryz.prog Tryz.coll8_ren := {
  mixed := by kernel_rfl
  f8 := ⟨Tryz.f129.name, by decide, Tryz.func129.trans (congrArg some (by kernel_rfl))⟩
  f11 := ⟨Tryz.f150.name, by decide, Tryz.func150.trans (congrArg some (by kernel_rfl))⟩
  t0 := Tryz.underlying0
  a0 := Tryz.isAgg0
  z0 := Tryz.sizeOf0
  v0 := Tryz.zeroValue0
  t24 := Tryz.underlying47
  a24 := Tryz.isAgg47
  z24 := Tryz.sizeOf47
  v24 := Tryz.zeroValue47
  t26 := Tryz.underlying9
  a26 := Tryz.isAgg9
  z26 := Tryz.sizeOf9
  v26 := Tryz.zeroValue9
  t28 := Tryz.underlying148
  a28 := Tryz.isAgg148
  z28 := Tryz.sizeOf148
  v28 := Tryz.zeroValue148
  i26 := by kernel_rfl }
end Go.Proofs

/- A value in the place of another, in plain words: what the program's spans give and what the reference's loop gives are the same list. Conditions: none beyond what each lemma states. -/
namespace Go.Proofs.YtgcfkljooabjjaaGreatDoor
open Go.RowKit

/-! ### what is within -/
theorem pre_parts (p q : Str) : (parts q).isPrefixOf (parts p) = true ↔ p = q ∨ ∃ s, p = q ++ 47 :: s := by
  rw [List.isPrefixOf_iff_prefix]
  constructor
  · rintro ⟨r, hr⟩
    by_cases h0 : r = []
    · subst h0; left; rw [List.append_nil] at hr; exact (parts_inj hr).symm
    · right
      refine ⟨joinP r, ?_⟩
      apply parts_inj
      rw [parts_append, parts_joinP r h0 (fun x hx => parts_mem p x (by rw [← hr]; exact List.mem_append_right _ hx)), hr]
  · rintro (rfl | ⟨s, rfl⟩)
    · exact List.prefix_refl _
    · rw [parts_append]; exact List.prefix_append _ _
theorem within_iff {p q : Str} (hp : okPath p = true) (hq : okPath q = true) : within p q = true ↔ p = q ∨ ∃ s, p = q ++ 47 :: s := by
  unfold within
  rw [hp, hq, Bool.true_and, Bool.true_and, Bool.or_eq_true, decide_eq_true_eq, pre_parts]
  constructor
  · rintro (h | h)
    · subst h; exact absurd hq (by decide)
    · exact h
  · exact .inr
theorem within_pre {p q : Str} (hq : okPath q = true) (h : within p q = true) : okPath p = true ∧ (parts q) <+: (parts p) := by
  unfold within at h
  rw [hq, Bool.true_and, Bool.and_eq_true, Bool.or_eq_true, decide_eq_true_eq, List.isPrefixOf_iff_prefix] at h
  refine ⟨h.1, ?_⟩
  rcases h.2 with h | h
  · subst h; exact absurd hq (by decide)
  · exact h
theorem cmpN_pre : ∀ (q r : List Str), 0 ≤ cmpN (q ++ r) q
  | [], [] => by decide
  | [], _ :: _ => by simp [cmpN]
  | x :: q, r => by simp only [List.cons_append, cmpN, cmpB_self, if_true]; exact cmpN_pre q r
theorem within_order {p q : Str} (hq : okPath q = true) (h : within p q = true) : 0 ≤ order p q := by
  obtain ⟨_, r, hr⟩ := within_pre hq h
  unfold order; rw [← hr]; exact cmpN_pre _ _
theorem cmpN_between : ∀ {q a r : List Str}, 0 ≤ cmpN a q → cmpN a (q ++ r) < 0 → q <+: a
  | [], a, r, _, _ => List.nil_prefix
  | x :: q, [], r, h, _ => by simp [cmpN] at h
  | x :: q, y :: a, r, h, k => by
    simp only [List.cons_append, cmpN] at h k
    by_cases e : Lib.compareBytes y x = 0
    · rw [if_pos e] at h k
      obtain rfl := cmpB_eq e
      obtain ⟨s, hs⟩ := cmpN_between h k
      exact ⟨s, by rw [← hs]; rfl⟩
    · rw [if_neg e] at h k
      omega
/-- what stands between a path and what is within it is within it -/
theorem within_between {a b q : Str} (ha : okPath a = true) (hq : okPath q = true) (h0 : 0 ≤ order a q) (hab : order a b < 0) (hb : within b q = true) : within a q = true := by
  obtain ⟨_, r, hr⟩ := within_pre hq hb
  unfold order at h0 hab
  rw [← hr] at hab
  have := cmpN_between h0 hab
  unfold within
  rw [ha, hq, List.isPrefixOf_iff_prefix.2 this]
  simp

/-! ### the list -/
def lower (t : List Node) (p : Str) : List Node := t.filter fun n => decide (order n.p p < 0)
def upper (t : List Node) (p : Str) : List Node := t.filter fun n => decide (0 ≤ order n.p p) && !within n.p p
def newPath (path : ByteArray) (k : Nat) (x : ByteArray) : ByteArray := if k = 0 then path else path ++ (⟨#[47]⟩ : ByteArray) ++ x
def moved (path : ByteArray) (v : List Node) : List Node := v.mapIdx fun k n => { n with path := newPath path k n.path }
def putOut (t : List Node) (path : ByteArray) (v : List Node) : List Node := lower t (str path) ++ moved path v ++ upper t (str path)
/-- a value -/
def okVal (v : List Node) : Bool :=
  match v with
  | [] => true
  | n :: r => decide (v.length ≤ 1000) && (decide (n.p = []) && (rightN n && (decide (r = []) || decide (n.kind = 2) && okTree r)))
def putR (t : List Node) (path : ByteArray) (v : List Node) : List Node × Int :=
  if (okTree t && okVal v) = true then
    if okPath (str path) = true then
      if (v.isEmpty || isDir t (parent (str path))) = true then
        if (moved path v).all (fun n => okPath n.p) = true then
          if (putOut t path v).length ≤ 1000 then (putOut t path v, 0) else ([], 32)
        else ([], 11)
      else ([], 62)
    else ([], 11)
  else ([], 60)

theorem filter_take {α : Type} (P : α → Bool) (t : List α) (i : Nat) (h1 : ∀ (j : Nat) (n : α), j < i → t[j]? = some n → P n = true) (h2 : ∀ (j : Nat) (n : α), i ≤ j → t[j]? = some n → P n = false) : t.filter P = t.take i := by
  conv => lhs; rw [← List.take_append_drop i t]
  rw [List.filter_append, List.filter_eq_self.2 (fun a ha => ?_), List.filter_eq_nil_iff.2 (fun a ha => ?_), List.append_nil]
  · obtain ⟨j, hj, rfl⟩ := List.getElem_of_mem ha
    have := h2 (i + j) _ (by omega) (by rw [← List.getElem?_drop]; exact List.getElem?_eq_getElem hj)
    rw [this]; simp
  · obtain ⟨j, hj, rfl⟩ := List.getElem_of_mem ha
    have hj' := hj
    rw [List.length_take] at hj'
    exact h1 j _ (by omega) (by rw [List.getElem_take]; exact List.getElem?_eq_getElem (by omega))
theorem filter_drop {α : Type} (P : α → Bool) (t : List α) (i : Nat) (h1 : ∀ (j : Nat) (n : α), j < i → t[j]? = some n → P n = false) (h2 : ∀ (j : Nat) (n : α), i ≤ j → t[j]? = some n → P n = true) : t.filter P = t.drop i := by
  conv => lhs; rw [← List.take_append_drop i t]
  rw [List.filter_append, List.filter_eq_nil_iff.2 (fun a ha => ?_), List.filter_eq_self.2 (fun a ha => ?_), List.nil_append]
  · obtain ⟨j, hj, rfl⟩ := List.getElem_of_mem ha
    exact h2 (i + j) _ (by omega) (by rw [← List.getElem?_drop]; exact List.getElem?_eq_getElem hj)
  · obtain ⟨j, hj, rfl⟩ := List.getElem_of_mem ha
    have hj' := hj
    rw [List.length_take] at hj'
    have := h1 j _ (by omega) (List.getElem?_eq_getElem (by omega))
    rw [List.getElem_take, this]; simp
/-- the places of what is within -/
structure SpanAt (t : List Node) (p : Str) (i j : Nat) : Prop where
  ij : i ≤ j
  le : j ≤ t.length
  lo : ∀ (k : Nat) (n : Node), k < i → t[k]? = some n → order n.p p < 0
  hi : ∀ (k : Nat) (n : Node), i ≤ k → t[k]? = some n → 0 ≤ order n.p p
  in_ : ∀ (k : Nat) (n : Node), i ≤ k → k < j → t[k]? = some n → within n.p p = true
  out : ∀ n, t[j]? = some n → within n.p p = false
theorem SpanAt.lower {t : List Node} {p : Str} {i j : Nat} (h : SpanAt t p i j) : t.take i = lower t p := by
  unfold Go.Proofs.YtgcfkljooabjjaaGreatDoor.lower
  rw [filter_take _ t i (fun k n hk hn => decide_eq_true (h.lo k n hk hn)) (fun k n hk hn => decide_eq_false (by have := h.hi k n hk hn; omega))]
theorem SpanAt.far {t : List Node} {p : Str} {i j : Nat} (h : SpanAt t p i j) (hk : okTree t = true) (hp : okPath p = true) (k : Nat) (n : Node) (hjk : j ≤ k) (hn : t[k]? = some n) : within n.p p = false := by
  rcases Nat.lt_or_ge j k with h1 | h1
  · obtain ⟨hkl, rfl⟩ := List.getElem?_eq_some_iff.1 hn
    have hjl : j < t.length := by omega
    cases hw : within (t[k]).p p
    · rfl
    · have h2 := List.pairwise_iff_getElem.1 (okTree_sorted hk) j k hjl hkl h1
      have h3 := within_between (okTree_path hk (List.getElem_mem hjl)) hp (h.hi j _ h.ij (List.getElem?_eq_getElem hjl)) h2 hw
      have h4 := h.out _ (List.getElem?_eq_getElem hjl)
      rw [h3] at h4
      cases h4
  · obtain rfl : j = k := by omega
    exact h.out n hn
theorem SpanAt.upper {t : List Node} {p : Str} {i j : Nat} (h : SpanAt t p i j) (hk : okTree t = true) (hp : okPath p = true) : t.drop j = upper t p := by
  unfold Go.Proofs.YtgcfkljooabjjaaGreatDoor.upper
  rw [filter_drop _ t j (fun k n hkj hn => ?_) (fun k n hjk hn => ?_)]
  · rcases Nat.lt_or_ge k i with h1 | h1
    · have := h.lo k n h1 hn
      rw [decide_eq_false (by omega)]; rfl
    · rw [h.in_ k n h1 hkj hn]; simp
  · rw [h.far hk hp k n hjk hn, decide_eq_true (h.hi k n (by have := h.ij; omega) hn)]; rfl
theorem SpanAt.mid {t : List Node} {p : Str} {i j : Nat} (h : SpanAt t p i j) (hk : okTree t = true) (hp : okPath p = true) : (t.drop i).take (j - i) = t.filter fun n => within n.p p := by
  conv => rhs; rw [← List.take_append_drop i t, ← List.take_append_drop (j - i) (t.drop i)]
  rw [List.filter_append, List.filter_append, List.filter_eq_nil_iff.2 (fun a ha => ?_), List.filter_eq_self.2 (fun a ha => ?_), List.filter_eq_nil_iff.2 (fun a ha => ?_), List.nil_append, List.append_nil]
  · rw [List.drop_drop] at ha
    obtain ⟨m, hm, rfl⟩ := List.getElem_of_mem ha
    have hij := h.ij
    have := h.far hk hp (i + (j - i) + m) _ (by omega) (by rw [← List.getElem?_drop]; exact List.getElem?_eq_getElem hm)
    rw [this]; simp
  · obtain ⟨m, hm, rfl⟩ := List.getElem_of_mem ha
    have hm' := hm
    rw [List.length_take] at hm'
    exact h.in_ (i + m) _ (by omega) (by omega) (by rw [List.getElem_take, ← List.getElem?_drop]; exact List.getElem?_eq_getElem (by omega))
  · obtain ⟨m, hm, rfl⟩ := List.getElem_of_mem ha
    have hm' := hm
    rw [List.length_take] at hm'
    have h1 := h.lo m _ (by omega) (List.getElem?_eq_getElem (by omega))
    rw [List.getElem_take]
    intro hw
    have := within_order hp hw
    omega

/-! ### the reference's loop -/
def came (t : List Node) (p : Str) (i : Nat) : Bool := (t.take i).any fun n => decide (0 ≤ order n.p p)
def outTo (t : List Node) (path : ByteArray) (v : List Node) (i : Nat) (put : Bool) : List Node :=
  lower (t.take i) (str path) ++ if put = true then moved path v ++ upper (t.take i) (str path) else []
theorem came_zero (t : List Node) (p : Str) : came t p 0 = false := rfl
theorem outTo_zero (t : List Node) (path : ByteArray) (v : List Node) : outTo t path v 0 false = [] := rfl
theorem came_succ {t : List Node} {p : Str} {i : Nat} {n : Node} (h : t[i]? = some n) : came t p (i + 1) = (came t p i || decide (0 ≤ order n.p p)) := by
  unfold came; rw [take_get h, List.any_append]; simp
theorem came_sorted {t : List Node} {p : Str} {i : Nat} {n : Node} (hs : Sorted t) (h : t[i]? = some n) (hc : came t p i = true) : 0 ≤ order n.p p := by
  unfold came at hc
  rw [List.any_eq_true] at hc
  obtain ⟨m, hm, hp⟩ := hc
  rw [decide_eq_true_eq] at hp
  obtain ⟨j, hj, rfl⟩ := List.getElem_of_mem hm
  rw [List.length_take] at hj
  rw [List.getElem_take] at hp
  obtain ⟨hil, rfl⟩ := List.getElem?_eq_some_iff.1 h
  have h1 := List.pairwise_iff_getElem.1 hs j i (by omega) hil (by omega)
  rcases Int.lt_or_le (order (t[i]).p p) 0 with h2 | h2
  · have := order_trans h1 h2; omega
  · exact h2
theorem lower_succ {t : List Node} {p : Str} {i : Nat} {n : Node} (h : t[i]? = some n) : lower (t.take (i + 1)) p = lower (t.take i) p ++ if order n.p p < 0 then [n] else [] := by
  unfold lower; rw [take_get h, List.filter_append]
  by_cases h1 : order n.p p < 0 <;> simp [h1]
theorem upper_succ {t : List Node} {p : Str} {i : Nat} {n : Node} (h : t[i]? = some n) : upper (t.take (i + 1)) p = upper (t.take i) p ++ if (decide (0 ≤ order n.p p) && !within n.p p) = true then [n] else [] := by
  unfold upper; rw [take_get h, List.filter_append]
  congr 1
  rw [List.filter_cons, List.filter_nil]
theorem upper_none {t : List Node} {p : Str} {i : Nat} (h : came t p i = false) : upper (t.take i) p = [] := by
  unfold upper
  rw [List.filter_eq_nil_iff]
  intro n hn
  unfold came at h
  rw [List.any_eq_false] at h
  have := h n hn
  simp only [decide_eq_true_eq] at this
  simp [this]
/-- a node behind the new value, or ahead of it -/
theorem outTo_step {t : List Node} {path : ByteArray} {v : List Node} {i : Nat} {n : Node} (hs : Sorted t) (hp : okPath (str path) = true) (h : t[i]? = some n) :
    outTo t path v (i + 1) (came t (str path) (i + 1)) = (outTo t path v i (came t (str path) i) ++ if came t (str path) i = false ∧ 0 ≤ order n.p (str path) then moved path v else []) ++ if within n.p (str path) = true then [] else [n] := by
  unfold outTo
  rw [came_succ h, lower_succ h, upper_succ h]
  cases hc : came t (str path) i
  · rw [upper_none hc]
    by_cases h1 : order n.p (str path) < 0
    · have h2 : ¬ 0 ≤ order n.p (str path) := by omega
      have h3 : ¬ within n.p (str path) = true := fun hw => h2 (within_order hp hw)
      simp [h1, h2, h3]
    · have h2 : 0 ≤ order n.p (str path) := by omega
      by_cases h3 : within n.p (str path) = true
      · simp [h1, h2, h3]
      · simp [h1, h2, h3]
  · have h2 := came_sorted hs h hc
    have h1 : ¬ order n.p (str path) < 0 := by omega
    by_cases h3 : within n.p (str path) = true
    · simp [h1, h2, h3]
    · simp [h1, h2, h3]
theorem outTo_all {t : List Node} {path : ByteArray} {v : List Node} : outTo t path v t.length (came t (str path) t.length) ++ (if came t (str path) t.length = false then moved path v else []) = putOut t path v := by
  unfold outTo putOut
  cases hc : came t (str path) t.length
  · have h := upper_none hc
    rw [List.take_length] at h
    simp [h]
  · simp
theorem outTo_step_put {t : List Node} {path : ByteArray} {v : List Node} {i : Nat} {n : Node} (hs : Sorted t) (hp : okPath (str path) = true) (h : t[i]? = some n) (hc : came t (str path) i = false) (h0 : 0 ≤ order n.p (str path)) :
    outTo t path v (i + 1) true = (outTo t path v i false ++ moved path v) ++ if within n.p (str path) = true then [] else [n] := by
  have := outTo_step (v := v) hs hp h
  rw [came_succ h, hc, decide_eq_true h0] at this
  simpa [h0] using this
theorem moved_len (path : ByteArray) (v : List Node) : (moved path v).length = v.length := by unfold moved; simp
theorem moved_get {path : ByteArray} {v : List Node} {k : Nat} {n : Node} (h : v[k]? = some n) : (moved path v)[k]? = some { n with path := newPath path k n.path } := by
  unfold moved; simp [h]
theorem moved_nil (path : ByteArray) : moved path [] = [] := rfl
theorem rdir_eq {t : List Node} {p : Str} (hs : Sorted t) : rdir t p = isDir t p := by
  cases h : isDir t p
  · cases h2 : rdir t p
    · rfl
    · exfalso
      unfold isDir at h
      rw [Bool.or_eq_false_iff] at h
      rcases rdir_dir h2 with h3 | ⟨n, hn, h3, h4⟩
      · simp [h3] at h
      · have := h.2
        rw [List.any_eq_false] at this
        exact this n hn (by simp [h3, h4])
  · exact dir_rdir hs h
end Go.Proofs.YtgcfkljooabjjaaGreatDoor

/- Trees with a value put in them are trees; what was put is there, and all else is as it was: in plain words. Conditions: none beyond what each lemma states. -/
namespace Go.Proofs.YtgcfkljooabjjaaGreatDoor
open Go.RowKit

/-! ### trees, by their nodes -/
theorem sorted_last {x : List Node} (hs : Sorted x) {j : Nat} (hj : j < x.length) : lastOk (x.take j) x[j] = true := by
  cases hl : (x.take j).getLast? with
  | none => exact lastOk_none hl
  | some m =>
    rw [lastOk_some hl, decide_eq_true_eq]
    rw [List.getLast?_eq_getElem?] at hl
    obtain ⟨h1, rfl⟩ := List.getElem?_eq_some_iff.1 hl
    rw [List.getElem_take]
    have h2 := List.length_take (i := j) (l := x)
    exact List.pairwise_iff_getElem.1 hs _ j (by omega) hj (by omega)
theorem tree_of {x : List Node} (hl : x.length ≤ 1000) (hs : Sorted x) (h : ∀ n ∈ x, okPath n.p = true ∧ rightN n = true ∧ isDir x (parent n.p) = true) : okTree x = true :=
  RokTo.tree hl fun j hj _ => by
    obtain ⟨h1, h2, h3⟩ := h _ (List.getElem_mem hj)
    unfold rok
    rw [h1, h2, dir_rdir hs h3, sorted_last hs hj]; rfl
theorem okTree_right {t : List Node} (h : okTree t = true) {n : Node} (hn : n ∈ t) : rightN n = true := by
  obtain ⟨i, hi, rfl⟩ := List.getElem_of_mem hn
  have := okTree_next h i hi
  rw [okNext_eq] at this
  simp only [Bool.and_eq_true] at this
  exact this.1.1.2
theorem isDir_iff {t : List Node} {p : Str} : isDir t p = true ↔ p = [] ∨ ∃ n ∈ t, n.p = p ∧ n.kind = 2 := by
  unfold isDir
  rw [Bool.or_eq_true, decide_eq_true_eq, List.any_eq_true]
  simp only [Bool.and_eq_true, decide_eq_true_eq]

/-! ### orders of what is within one path -/
theorem cmpN_append : ∀ (l a b : List Str), cmpN (l ++ a) (l ++ b) = cmpN a b
  | [], _, _ => rfl
  | x :: l, a, b => by simp only [List.cons_append, cmpN, cmpB_self, if_true]; exact cmpN_append l a b
theorem order_sub (q a b : Str) : order (q ++ 47 :: a) (q ++ 47 :: b) = order a b := by
  unfold order; rw [parts_append, parts_append, cmpN_append]
theorem cmpN_own : ∀ (l b : List Str), b ≠ [] → cmpN l (l ++ b) < 0
  | [], [], h => absurd rfl h
  | [], _ :: _, _ => by simp [cmpN]
  | x :: l, b, h => by simp only [List.cons_append, cmpN, cmpB_self, if_true]; exact cmpN_own l b h
theorem order_own (q a : Str) : order q (q ++ 47 :: a) < 0 := by
  unfold order; rw [parts_append]; exact cmpN_own _ _ (parts_ne a)
theorem order_lt_le {a b c : Str} (h : order a b < 0) (k : 0 ≤ order c b) : order a c < 0 := by
  rcases Int.lt_trichotomy (order c b) 0 with h1 | h1 | h1
  · omega
  · rw [order_eq h1]; exact h
  · have h2 := order_swap c b
    exact order_trans h (by omega)
theorem order_tri (a b : Str) : order a b < 0 ∨ a = b ∨ order b a < 0 := by
  rcases Int.lt_trichotomy (order a b) 0 with h1 | h1 | h1
  · exact .inl h1
  · exact .inr (.inl (order_eq h1))
  · exact .inr (.inr (by have := order_swap a b; omega))

/-! ### a value, put at a path -/
theorem str_slash (a b : ByteArray) : str (a ++ (⟨#[47]⟩ : ByteArray) ++ b) = str a ++ 47 :: str b := by
  rw [str_append, str_append]; simp [str]
def under (path : ByteArray) (n : Node) : Node := { n with path := path ++ (⟨#[47]⟩ : ByteArray) ++ n.path }
theorem under_p (path : ByteArray) (n : Node) : (under path n).p = str path ++ 47 :: n.p := str_slash _ _
theorem moved_cons (path : ByteArray) (n : Node) (r : List Node) : moved path (n :: r) = { n with path := path } :: r.map (under path) := by
  unfold moved
  rw [List.mapIdx_cons]
  congr 1
  apply List.ext_getElem?
  intro i
  rw [List.getElem?_mapIdx, List.getElem?_map]
  rfl
theorem okVal_cons {n : Node} {r : List Node} (h : okVal (n :: r) = true) : r.length + 1 ≤ 1000 ∧ n.p = [] ∧ rightN n = true ∧ (r = [] ∨ n.kind = 2 ∧ okTree r = true) := by
  unfold okVal at h
  simp only [Bool.and_eq_true, Bool.or_eq_true, decide_eq_true_eq, List.length_cons] at h
  exact h
theorem okVal_mk {n : Node} {r : List Node} (h1 : r.length + 1 ≤ 1000) (h2 : n.p = []) (h3 : rightN n = true) (h4 : r = [] ∨ n.kind = 2 ∧ okTree r = true) : okVal (n :: r) = true := by
  unfold okVal
  simp only [Bool.and_eq_true, Bool.or_eq_true, decide_eq_true_eq, List.length_cons]
  exact ⟨h1, h2, h3, h4⟩
theorem within_self {p : Str} (h : okPath p = true) : within p p = true := (within_iff h h).2 (.inl rfl)
theorem within_sub {q s : Str} (hq : okPath q = true) (h : okPath (q ++ 47 :: s) = true) : within (q ++ 47 :: s) q = true := (within_iff h hq).2 (.inr ⟨s, rfl⟩)
/-- what is put is within the path -/
theorem moved_in {path : ByteArray} {v : List Node} (hp : okPath (str path) = true) (ha : (moved path v).all (fun n => okPath n.p) = true) {m : Node} (hm : m ∈ moved path v) : within m.p (str path) = true := by
  rw [List.all_eq_true] at ha
  have hk := ha m hm
  cases v with
  | nil => cases hm
  | cons n r =>
    rw [moved_cons] at hm
    rcases List.mem_cons.1 hm with rfl | hm
    · exact within_self hp
    · obtain ⟨x, _, rfl⟩ := List.mem_map.1 hm
      rw [under_p] at hk ⊢
      exact within_sub hp hk
theorem moved_sorted {path : ByteArray} {v : List Node} (hv : okVal v = true) : Sorted (moved path v) := by
  cases v with
  | nil => exact List.Pairwise.nil
  | cons n r =>
    obtain ⟨_, _, _, h4⟩ := okVal_cons hv
    rw [moved_cons]
    refine List.pairwise_cons.2 ⟨fun m hm => ?_, ?_⟩
    · obtain ⟨x, _, rfl⟩ := List.mem_map.1 hm
      rw [under_p]; exact order_own _ _
    · rcases h4 with rfl | ⟨_, h4⟩
      · exact List.Pairwise.nil
      · rw [List.pairwise_map]
        refine (okTree_sorted h4).imp fun {a b} hab => ?_
        rw [under_p, under_p, order_sub]; exact hab
theorem mem_lower {t : List Node} {p : Str} {n : Node} : n ∈ lower t p ↔ n ∈ t ∧ order n.p p < 0 := by
  unfold lower; rw [List.mem_filter, decide_eq_true_eq]
theorem mem_upper {t : List Node} {p : Str} {n : Node} : n ∈ upper t p ↔ n ∈ t ∧ 0 ≤ order n.p p ∧ within n.p p = false := by
  unfold upper; rw [List.mem_filter, Bool.and_eq_true, decide_eq_true_eq, Bool.not_eq_true']
/-- all but what is within stays -/
theorem mem_stay {t : List Node} {path : ByteArray} {v : List Node} {n : Node} (hn : n ∈ t) (hw : within n.p (str path) = false) : n ∈ putOut t path v := by
  unfold putOut
  rcases Int.lt_or_le (order n.p (str path)) 0 with h | h
  · exact List.mem_append_left _ (List.mem_append_left _ (mem_lower.2 ⟨hn, h⟩))
  · exact List.mem_append_right _ (mem_upper.2 ⟨hn, h, hw⟩)
theorem lower_out {t : List Node} {p : Str} (hp : okPath p = true) {n : Node} (h : n ∈ lower t p) : within n.p p = false := by
  cases hw : within n.p p
  · rfl
  · have := within_order hp hw
    have := (mem_lower.1 h).2
    omega
theorem upper_behind {t : List Node} {p m : Str} (ht : okTree t = true) (hp : okPath p = true) (hm : within m p = true) {u : Node} (hu : u ∈ upper t p) : order m u.p < 0 := by
  obtain ⟨h1, h2, h3⟩ := mem_upper.1 hu
  rcases order_tri m u.p with h | h | h
  · exact h
  · rw [← h, hm] at h3; cases h3
  · rw [within_between (okTree_path ht h1) hp h2 h hm] at h3; cases h3
theorem putOut_sorted {t : List Node} {path : ByteArray} {v : List Node} (ht : okTree t = true) (hv : okVal v = true) (hp : okPath (str path) = true) (ha : (moved path v).all (fun n => okPath n.p) = true) : Sorted (putOut t path v) := by
  have hs := okTree_sorted ht
  unfold putOut Sorted
  rw [List.pairwise_append, List.pairwise_append]
  refine ⟨⟨List.Pairwise.filter _ hs, moved_sorted hv, fun a hla b hb => ?_⟩, List.Pairwise.filter _ hs, fun a hla b hb => ?_⟩
  · exact order_lt_le (mem_lower.1 hla).2 (within_order hp (moved_in hp ha hb))
  · rcases List.mem_append.1 hla with h | h
    · exact order_lt_le (mem_lower.1 h).2 (mem_upper.1 hb).2.1
    · exact upper_behind ht hp (moved_in hp ha h) hb
theorem parent_parts {p : Str} (h : okPath p = true) (hp : parent p ≠ []) : parts (parent p) = (parts p).dropLast := by
  have hd : (parts p).dropLast ≠ [] := fun e => by rw [parent_eq h, e] at hp; exact hp rfl
  rw [parent_eq h]; exact parts_joinP _ hd drop_clean
theorem parent_out {p q : Str} (h : okPath p = true) (hq : okPath q = true) (hp : parent p ≠ []) (_ : okPath (parent p) = true) (hw : within p q = false) : within (parent p) q = false := by
  cases hw2 : within (parent p) q
  · rfl
  · obtain ⟨_, h1⟩ := within_pre hq hw2
    rw [parent_parts h hp] at h1
    have h2 := h1.trans (List.dropLast_prefix (parts p))
    have : within p q = true := by
      unfold within
      rw [h, hq, List.isPrefixOf_iff_prefix.2 h2]; simp
    rw [this] at hw; cases hw
theorem parent_own {q : Str} (hq : okPath q = true) (hp : parent q ≠ []) (_ : okPath (parent q) = true) : within (parent q) q = false := by
  cases hw2 : within (parent q) q
  · rfl
  · obtain ⟨_, h1⟩ := within_pre hq hw2
    rw [parent_parts hq hp] at h1
    have h2 := h1.length_le
    rw [List.length_dropLast] at h2
    have h3 : 0 < (parts q).length := List.length_pos_iff.2 (parts_ne q)
    omega
theorem parent_sub {q s : Str} (_ : okPath q = true) (hs : okPath s = true) (h : okPath (q ++ 47 :: s) = true) : parent (q ++ 47 :: s) = if parent s = [] then q else q ++ 47 :: parent s := by
  have e1 : (parts (q ++ 47 :: s)).dropLast = parts q ++ (parts s).dropLast := by
    rw [parts_append, List.dropLast_append_of_ne_nil (parts_ne s)]
  rw [parent_eq h, e1]
  by_cases hp : parent s = []
  · have hd : (parts s).dropLast = [] := by
      by_cases hd : (parts s).dropLast = []
      · exact hd
      · rw [parent_eq hs] at hp
        exact absurd hp (joinP_ne hd (drop_names hs))
    rw [if_pos hp, hd, List.append_nil, joinP_parts]
  · rw [if_neg hp]
    have hd : (parts s).dropLast ≠ [] := fun e => by rw [parent_eq hs, e] at hp; exact hp rfl
    apply parts_inj
    rw [parts_joinP _ (by simp [parts_ne]) (fun x hx => ?_), parts_append, parent_parts hs hp]
    rcases List.mem_append.1 hx with h1 | h1
    · exact parts_mem _ _ h1
    · exact drop_clean _ h1
theorem stays_dir {t : List Node} {path : ByteArray} {v : List Node} {p : Str} (ht : okTree t = true) (h : isDir t p = true) (ho : p ≠ [] → okPath p = true → within p (str path) = false) : isDir (putOut t path v) p = true := by
  rw [isDir_iff] at h ⊢
  rcases h with h | ⟨m, hm, rfl, hk⟩
  · exact .inl h
  · have := okTree_path ht hm
    exact .inr ⟨m, mem_stay hm (ho (okPath_ne this) this), rfl, hk⟩
/-- a tree with a value put in it is one -/
theorem putOut_tree {t : List Node} {path : ByteArray} {v : List Node} (ht : okTree t = true) (hv : okVal v = true) (hp : okPath (str path) = true) (hd : (v.isEmpty || isDir t (parent (str path))) = true) (ha : (moved path v).all (fun n => okPath n.p) = true) (hl : (putOut t path v).length ≤ 1000) : okTree (putOut t path v) = true := by
  refine tree_of hl (putOut_sorted ht hv hp ha) fun n hn => ?_
  have hstay : n ∈ t → within n.p (str path) = false → okPath n.p = true ∧ rightN n = true ∧ isDir (putOut t path v) (parent n.p) = true := fun h1 h2 =>
    ⟨okTree_path ht h1, okTree_right ht h1, stays_dir ht (parent_dir ht h1) fun h3 h4 => parent_out (okTree_path ht h1) hp h3 h4 h2⟩
  have hn0 := hn
  unfold putOut at hn
  rcases List.mem_append.1 hn with hn | hn
  · rcases List.mem_append.1 hn with hn | hn
    · exact hstay (mem_lower.1 hn).1 (lower_out hp hn)
    · have hok : okPath n.p = true := by rw [List.all_eq_true] at ha; exact ha n hn
      refine ⟨hok, ?_⟩
      cases v with
      | nil => cases hn
      | cons x r =>
        obtain ⟨h1, h2, h3, h4⟩ := okVal_cons hv
        rw [moved_cons] at hn
        have hsub : ∀ y ∈ moved path (x :: r), y ∈ putOut t path (x :: r) := fun y hy => by unfold putOut; exact List.mem_append_left _ (List.mem_append_right _ hy)
        rw [moved_cons] at hsub
        rcases List.mem_cons.1 hn with rfl | hn
        · refine ⟨h3, stays_dir ht ?_ fun h5 h6 => parent_own hp h5 h6⟩
          have hd' : isDir t (parent (str path)) = true := by simpa using hd
          exact hd'
        · obtain ⟨m, hm, rfl⟩ := List.mem_map.1 hn
          rcases h4 with rfl | ⟨h4, h5⟩
          · cases hm
          refine ⟨(okTree_right h5 hm : rightN m = true), ?_⟩
          rw [under_p] at hok ⊢
          rw [parent_sub hp (okTree_path h5 hm) hok]
          rw [isDir_iff]
          right
          rcases isDir_iff.1 (parent_dir h5 hm) with h6 | ⟨d, hd1, hd2, hd3⟩
          · rw [if_pos h6]
            exact ⟨_, hsub _ (List.mem_cons_self ..), rfl, h4⟩
          · rw [if_neg (by rw [← hd2]; exact okPath_ne (okTree_path h5 hd1)), ← hd2]
            exact ⟨_, hsub _ (List.mem_cons_of_mem _ (List.mem_map.2 ⟨d, hd1, rfl⟩)), under_p _ _, hd3⟩
  · exact hstay (mem_upper.1 hn).1 (mem_upper.1 hn).2.2

/-! ### the value at a path -/
def trimN (p : Str) (n : Node) : Node := { n with path := bs (n.p.drop (p.length + 1)) }

def inAt (t : List Node) (p : Str) : List Node := t.filter fun n => within n.p p
def atR (t : List Node) (p : Str) : List Node :=
  if okTree t = true then if p = [] then rootN :: t else if okPath p = true then (inAt t p).map (trimN p) else [] else []
theorem trim_under {path : ByteArray} (n : Node) : trimN (str path) (under path n) = n := by
  unfold trimN
  rw [under_p]
  have : (str path ++ 47 :: n.p).drop ((str path).length + 1) = n.p := by
    rw [List.drop_append]; simp
  rw [this]
  unfold Node.p
  rw [bs_str]; rfl
theorem trim_own {path : ByteArray} {n : Node} (h : n.p = []) : trimN (str path) { n with path := path } = n := by
  unfold trimN
  have e1 : ({ n with path := path } : Node).p = str path := rfl
  rw [e1, List.drop_eq_nil_of_le (by omega)]
  have e2 : bs [] = n.path := str_inj (by rw [str_bs]; exact h.symm)
  rw [e2]
theorem inAt_put {t : List Node} {path : ByteArray} {v : List Node} (hp : okPath (str path) = true) (ha : (moved path v).all (fun n => okPath n.p) = true) : inAt (putOut t path v) (str path) = moved path v := by
  unfold inAt putOut
  rw [List.filter_append, List.filter_append, List.filter_eq_nil_iff.2 (fun n hn => ?_), List.filter_eq_self.2 (fun n hn => ?_), List.filter_eq_nil_iff.2 (fun n hn => ?_)]
  · simp
  · rw [(mem_upper.1 hn).2.2]; simp
  · exact moved_in hp ha hn
  · rw [lower_out hp hn]; simp
theorem at_put {t : List Node} {path : ByteArray} {v : List Node} (hv : okVal v = true) (hp : okPath (str path) = true) (ha : (moved path v).all (fun n => okPath n.p) = true) (hx : okTree (putOut t path v) = true) : atR (putOut t path v) (str path) = v := by
  unfold atR
  rw [if_pos hx, if_neg (okPath_ne hp), if_pos hp, inAt_put hp ha]
  cases v with
  | nil => rfl
  | cons n r =>
    obtain ⟨_, h2, _, _⟩ := okVal_cons hv
    rw [moved_cons, List.map_cons, trim_own h2, List.map_map]
    congr 1
    conv => rhs; rw [← List.map_id r]
    exact List.map_congr_left fun x _ => trim_under x

/-! ### where they differ -/
theorem differ_mem : ∀ (k : Nat) (A B : List Node), A.length + B.length ≤ k → Sorted A → Sorted B → ∀ s ∈ differ A B, (∃ n ∈ A, n.path = s ∧ n ∉ B) ∨ (∃ n ∈ B, n.path = s ∧ n ∉ A)
  | k, [], B, _, _, _, s, h => by
    rw [differ_nil] at h
    obtain ⟨n, hn, rfl⟩ := List.mem_map.1 h
    exact .inr ⟨n, hn, rfl, by simp⟩
  | k, x :: A, [], _, _, _, s, h => by
    rw [differ_nil2] at h
    obtain ⟨n, hn, rfl⟩ := List.mem_map.1 h
    exact .inl ⟨n, hn, rfl, by simp⟩
  | 0, x :: A, y :: B, hk, _, _, s, h => by simp at hk
  | k + 1, x :: A, y :: B, hk, hA, hB, s, h => by
    simp only [List.length_cons] at hk
    have hA' := List.pairwise_cons.1 hA
    have hB' := List.pairwise_cons.1 hB
    have ne_of : ∀ {a b : Node}, order a.p b.p < 0 → a ≠ b := fun h e => by subst e; rw [order_self] at h; omega
    rcases Int.lt_trichotomy (order x.p y.p) 0 with h1 | h1 | h1
    · rw [differ_lt h1] at h
      have hx : x ∉ y :: B := fun hm => by
        rcases List.mem_cons.1 hm with e | hm
        · exact ne_of h1 e
        · exact ne_of (order_trans h1 (hB'.1 x hm)) rfl
      rcases List.mem_cons.1 h with rfl | h
      · exact .inl ⟨x, by simp, rfl, hx⟩
      · rcases differ_mem k A (y :: B) (by simp only [List.length_cons]; omega) hA'.2 hB s h with ⟨n, hn, hs, ho⟩ | ⟨n, hn, hs, ho⟩
        · exact .inl ⟨n, List.mem_cons_of_mem _ hn, hs, ho⟩
        · refine .inr ⟨n, hn, hs, fun hm => ?_⟩
          rcases List.mem_cons.1 hm with e | hm
          · subst e; exact hx hn
          · exact ho hm
    · rw [differ_eq h1] at h
      have hxy := order_eq h1
      have hx : ∀ b ∈ B, x ≠ b := fun b hb => ne_of (by rw [hxy]; exact hB'.1 b hb)
      have hy : ∀ a ∈ A, y ≠ a := fun a ha => ne_of (by rw [← hxy]; exact hA'.1 a ha)
      rcases List.mem_append.1 h with h | h
      · unfold oneDif at h
        split at h
        · cases h
        · rename_i hne
          rw [List.mem_singleton] at h
          refine .inl ⟨x, by simp, h.symm, fun hm => ?_⟩
          rcases List.mem_cons.1 hm with e | hm
          · exact hne e
          · exact hx x hm rfl
      · rcases differ_mem k A B (by omega) hA'.2 hB'.2 s h with ⟨n, hn, hs, ho⟩ | ⟨n, hn, hs, ho⟩
        · refine .inl ⟨n, List.mem_cons_of_mem _ hn, hs, fun hm => ?_⟩
          rcases List.mem_cons.1 hm with e | hm
          · exact hy n hn e.symm
          · exact ho hm
        · refine .inr ⟨n, List.mem_cons_of_mem _ hn, hs, fun hm => ?_⟩
          rcases List.mem_cons.1 hm with e | hm
          · exact hx n hn e.symm
          · exact ho hm
    · rw [differ_gt h1] at h
      have h1' : order y.p x.p < 0 := by have := order_swap x.p y.p; omega
      have hy : y ∉ x :: A := fun hm => by
        rcases List.mem_cons.1 hm with e | hm
        · exact ne_of h1' e
        · exact ne_of (order_trans h1' (hA'.1 y hm)) rfl
      rcases List.mem_cons.1 h with rfl | h
      · exact .inr ⟨y, by simp, rfl, hy⟩
      · rcases differ_mem k (x :: A) B (by simp only [List.length_cons]; omega) hA hB'.2 s h with ⟨n, hn, hs, ho⟩ | ⟨n, hn, hs, ho⟩
        · refine .inl ⟨n, hn, hs, fun hm => ?_⟩
          rcases List.mem_cons.1 hm with e | hm
          · subst e; exact hy hn
          · exact ho hm
        · exact .inr ⟨n, List.mem_cons_of_mem _ hn, hs, ho⟩
theorem put_differ {t : List Node} {path : ByteArray} {v : List Node} (ht : okTree t = true) (hp : okPath (str path) = true) (ha : (moved path v).all (fun n => okPath n.p) = true) (hx : okTree (putOut t path v) = true) {s : ByteArray} (h : s ∈ differ t (putOut t path v)) : within (str s) (str path) = true := by
  rcases differ_mem _ _ _ (Nat.le_refl _) (okTree_sorted ht) (okTree_sorted hx) s h with ⟨n, hn, rfl, ho⟩ | ⟨n, hn, rfl, ho⟩
  · cases hw : within (str n.path) (str path)
    · exact absurd (mem_stay hn hw) ho
    · rfl
  · unfold putOut at hn
    rcases List.mem_append.1 hn with hn | hn
    · rcases List.mem_append.1 hn with hn | hn
      · exact absurd (mem_lower.1 hn).1 ho
      · exact moved_in hp ha hn
    · exact absurd (mem_upper.1 hn).1 ho
end Go.Proofs.YtgcfkljooabjjaaGreatDoor

/- slices.SortFunc by name.Order, in memory of the call's own; the names of a disk in their order. Conditions: what each contract states. -/
namespace Go.Proofs.YtgcfkljooabjjaaGreatDoor
open Go.RowKit Go.Op Go.Maps Go.Sort Go.Shelf

/-! ### a row that is put anew -/
section
variable {α : Type} [Inhabited α] {enc : α → Value}
theorem gputRow_at {W : World} {g : Nat} {d : Array α} {cur : Array Value} {e : TypeId} (h : W.heap[g]? = some (.cells cur e (0, 0))) : (Sort.putRow enc W g 0 d).heap[g]? = some (.cells (Sort.putCells enc 0 d cur) e (0, 0)) := by
  unfold Sort.putRow Sort.mapBlock
  simp [Array.getElem?_modify, h, Sort.onCells]
theorem gputRow_far {W : World} {g k : Nat} {d : Array α} (h : g ≠ k) : (Sort.putRow enc W g 0 d).heap[k]? = W.heap[k]? := by
  unfold Sort.putRow Sort.mapBlock
  simp [Array.getElem?_modify, h]
theorem gputCells_take {d : Array α} {cur : Array Value} {n : Nat} (hn : n ≤ d.size) (hc : n ≤ cur.size) : (Sort.putCells enc 0 d cur).toList.take n = (d.toList.map enc).take n := by
  apply List.ext_getElem?
  intro i
  rw [List.getElem?_take, List.getElem?_take]
  by_cases hi : i < n
  · rw [if_pos hi, if_pos hi, Array.getElem?_toList, List.getElem?_map, Array.getElem?_toList]
    unfold Sort.putCells
    rw [Array.getElem?_mapIdx, Array.getElem?_eq_getElem (by omega), Array.getElem?_eq_getElem (by omega)]
    simp only [Option.map_some]
    rw [if_pos ⟨by omega, by omega⟩, Nat.sub_zero, getElem!_pos d i (by omega)]
  · rw [if_neg hi, if_neg hi]
theorem ggrow_low {W : World} {os : Array Obj} {k : Nat} (h : k < W.heap.size) : (Sort.grow W os).heap[k]? = W.heap[k]? := by
  unfold Sort.grow
  exact Array.getElem?_append_left h
theorem gputRow_size (W : World) (g : Nat) (d : Array α) : (Sort.putRow enc W g 0 d).heap.size = W.heap.size := by
  unfold Sort.putRow Sort.mapBlock; simp
theorem gput_own {W w0 : World} {base g n cap : Nat} {xs : List Value} (h : W.ownsRow base 9 1 (.slice (some ⟨g, 0, none⟩) n cap) n xs) (hb : w0.heap.size ≤ base) (ho : Off [] w0 W) (d : Array α) (hd : d.size = n) (q : Nat) (os : Array Obj) :
    (sortWorld enc W g 0 q d os).ownsRow base 9 1 (.slice (some ⟨g, 0, none⟩) n cap) n (d.toList.map enc) ∧ Off [] w0 (sortWorld enc W g 0 q d os) := by
  show (Sort.grow (Sort.putRow enc (Sort.ahead W q) g 0 d) os).ownsRow base 9 1 (.slice (some ⟨g, 0, none⟩) n cap) n (d.toList.map enc) ∧ Off [] w0 (Sort.grow (Sort.putRow enc (Sort.ahead W q) g 0 d) os)
  rcases h.2 with ⟨h0, _⟩ | ⟨g', cap', cur, hv, hbg, hh, hc, hmx, hs, ht⟩
  · cases h0
  · cases hv
    have hh' : (Sort.ahead W q).heap[g]? = some (.cells cur 9 (0, 0)) := hh
    have hlt : g < W.heap.size := (Array.getElem?_eq_some_iff.1 hh).1
    have hsz : (Sort.putRow enc (Sort.ahead W q) g 0 d).heap.size = W.heap.size := gputRow_size _ _ _
    refine ⟨⟨?_, .inr ⟨g, cap, Sort.putCells enc 0 d cur, rfl, hbg, ?_, by omega, hmx, ?_, ?_⟩⟩, ?_⟩
    · rw [List.length_map, Array.length_toList]; omega
    · rw [ggrow_low (by rw [hsz]; exact hlt)]; exact gputRow_at hh'
    · unfold Sort.putCells; rw [Array.size_mapIdx]; exact hs
    · rw [Nat.mul_one, gputCells_take (by omega) (by omega), List.take_of_length_le (by rw [List.length_map, Array.length_toList]; omega)]
    · refine ⟨ho.os, ho.tape, ho.output, ?_, fun k hk hn => ?_⟩
      · unfold Sort.grow; simp only [Array.size_append]; rw [hsz]; have := ho.size; omega
      · rw [ggrow_low (by rw [hsz]; have := ho.size; omega), gputRow_far (by omega)]
        exact ho.block k hk hn
theorem gown_holds {W : World} {base g cap : Nat} {xs : List α} (h : W.ownsRow base 9 1 (.slice (some ⟨g, 0, none⟩) xs.length cap) xs.length (xs.map enc)) : Sort.Holds enc W g 0 xs.toArray := by
  intro j hj
  have hj' : j < xs.length := by simpa using hj
  have hc := h.cells (g := g) rfl j (enc xs[j]) (by rw [List.getElem?_map, List.getElem?_eq_getElem hj']; rfl)
  rw [addr_add] at hc
  rw [Nat.zero_add]
  refine ⟨?_, ?_⟩
  · rw [hc, getElem!_pos _ j hj]
    simp only [List.getElem_toArray]
  · rcases h.2 with ⟨h0, _⟩ | ⟨g', cap', cur, hv, _, hh, _⟩
    · cases h0
    · cases hv; exact Blk.frozen (w := W) (t := 9) (cs := cur) hh j
end

/-! ### the order -/
abbrev ShortS := { x : ByteArray // x.size ≤ 1000000 }
instance : Inhabited ShortS := ⟨⟨⟨#[]⟩, by decide⟩⟩
def encS (x : ShortS) : Value := .string x.1
def cfS (x y : ShortS) : Int := order (str x.1) (str y.1)
def leS (x y : ByteArray) : Bool := !decide (order (str y) (str x) < 0)
def sortB (l : List ByteArray) : List ByteArray := l.mergeSort leS
theorem leS_trans (a b c : ByteArray) (h1 : leS a b = true) (h2 : leS b c = true) : leS a c = true := by
  unfold leS at *
  simp only [Bool.not_eq_true', decide_eq_false_iff_not] at *
  intro h
  rcases order_tri (str a) (str b) with h3 | h3 | h3
  · have := order_trans h h3
    exact h2 this
  · rw [h3] at h; exact h2 h
  · exact h1 h3
theorem leS_total (a b : ByteArray) : (leS a b || leS b a) = true := by
  unfold leS
  rcases order_tri (str a) (str b) with h | h | h
  · have h2 : ¬ order (str b) (str a) < 0 := fun k => by
      have := order_trans h k
      rw [order_self] at this; omega
    simp [h2]
  · rw [h, order_self]; simp
  · have h2 : ¬ order (str a) (str b) < 0 := fun k => by
      have := order_trans h k
      rw [order_self] at this; omega
    simp [h2]
theorem leS_anti (a b : ByteArray) (h1 : leS a b = true) (h2 : leS b a = true) : a = b := by
  unfold leS at *
  simp only [Bool.not_eq_true', decide_eq_false_iff_not] at *
  rcases order_tri (str a) (str b) with h | h | h
  · exact absurd h h2
  · exact str_inj h
  · exact absurd h h1
theorem sortB_perm {l l' : List ByteArray} (h : l.Perm l') : sortB l = sortB l' :=
  List.Perm.eq_of_pairwise (le := fun a b => leS a b = true) (fun a b _ _ h1 h2 => leS_anti a b h1 h2) (List.pairwise_mergeSort leS_trans leS_total l) (List.pairwise_mergeSort leS_trans leS_total l') (((List.mergeSort_perm l leS).trans h).trans (List.mergeSort_perm l' leS).symm)
theorem sortN_fst (l : NameL) : (PDisk.sortN l).map (·.1) = sortB (l.map (·.1)) := by
  unfold PDisk.sortN sortB
  exact List.map_mergeSort (fun a _ b _ => rfl)
theorem swoS : SWO (ltOf cfS) where
  irrefl x := by unfold ltOf cfS; rw [order_self]; rfl
  trans x y z h1 h2 := by
    unfold ltOf cfS at *
    simp only [decide_eq_true_eq] at *
    exact order_trans h1 h2
  ntrans x y z h1 h2 := by
    have := leS_trans z.1 y.1 x.1
    unfold leS at this
    unfold ltOf cfS at *
    simp only [Bool.not_eq_true', decide_eq_false_iff_not] at *
    exact this h2 h1
theorem totS (x y : ShortS) (h1 : ltOf cfS x y = false) (h2 : ltOf cfS y x = false) : x = y := by
  have := leS_anti x.1 y.1
  unfold leS at this
  unfold ltOf cfS at *
  simp only [Bool.not_eq_true', decide_eq_false_iff_not] at *
  exact Subtype.ext (this h2 h1)
theorem sortS_val (l : List ShortS) : (l.mergeSort fun x y => !(ltOf cfS) y x).map (·.1) = sortB (l.map (·.1)) := by
  unfold sortB
  exact List.map_mergeSort (fun a _ b _ => rfl)
theorem cmpOrd (blk off size : Nat) (w : World) : CmpLays1 Tryz.prog 87 #[] encS cfS blk off size w :=
  CmpReads.lays (fun m os dk _ x y => order_dr x.1 y.1 _ (Nat.le_trans x.2 (by decide)) (Nat.le_trans y.2 (by decide)))
theorem sortf_own {W w0 : World} {base : Nat} {v : Value} {xs : List ByteArray} (h : W.ownsRow base 9 1 v xs.length (xs.map Value.string)) (hb : w0.heap.size ≤ base) (ho : Off [] w0 W) (hx : ∀ x ∈ xs, x.size ≤ 1000000) (hl : xs.length ≤ 1000000) :
    Calls Tryz.prog 130 #[v, .func (.func 87) #[] #[]] W fun e w' => e = .returned (.tuple #[]) ∧ w'.ownsRow base 9 1 v xs.length ((sortB xs).map Value.string) ∧ Off [] w0 w' := by
  rcases h.2 with ⟨rfl, h0⟩ | ⟨g, cap, cur, rfl, hbg, hh, _⟩
  · have hs : xs = [] := List.length_eq_zero_iff.1 h0
    subst hs
    exact (AnyF.slices_SortFunc_none (P := Tryz.prog) (ρ := Tryz.sort6_ren) { Tryz.sort6 with } none 0 _ W).mono fun e w' ⟨he, hw⟩ => ⟨he, by subst hw; rw [show sortB [] = [] by unfold sortB; simp]; exact h, by subst hw; exact ho⟩
  · have hlt : g < W.heap.size := (Array.getElem?_eq_some_iff.1 hh).1
    obtain ⟨d, hd⟩ : ∃ d : List ShortS, d.map (·.1) = xs := ⟨xs.pmap (fun a ha => ⟨a, ha⟩) hx, by rw [List.map_pmap]; simp⟩
    have hdl : d.length = xs.length := by rw [← hd, List.length_map]
    have hde : d.map encS = xs.map Value.string := by rw [← hd, List.map_map]; rfl
    rw [← hdl, ← hde] at h
    have := Any.slices_SortFunc_total Tryz.sort6 encS (by intro x; rfl) cfS swoS 87 #[] g 0 cap d.toArray W (enters_of Tryz.func87 (by kernel_rfl) rfl) (cmpOrd _ _ _ _) (gown_holds h) hlt (by simp; omega) totS
    rw [List.size_toArray, hdl] at this
    refine this.mono fun e w' ⟨he, n, os, hw⟩ => ?_
    subst hw
    rw [hdl] at h
    have hp := gput_own (enc := encS) h hb ho (d.toArray.toList.mergeSort fun x y => !(ltOf cfS) y x).toArray (by simp [hdl]) n os
    refine ⟨he, ?_, hp.2⟩
    have h1 := hp.1
    have e : ((d.toArray.toList.mergeSort fun x y => !(ltOf cfS) y x).toArray.toList.map encS) = (sortB xs).map Value.string := by
      rw [← hd, ← sortS_val, List.map_map]; rfl
    rw [e] at h1
    exact h1
/-- the keys of a map of names -/
theorem NMat.keys {w : World} {b : Nat} {l : NameL} {D : DataW Unit} (ha : Apart l) (hD : w.ownsMap Tryz.prog 9 (plainElem Tryz.prog 3) b l.length D) (hr : ∀ p, has D (strL p) = hasN l p) : (l.map fun x => str x.1).Perm (strKeys D) := by
  obtain ⟨es, hDe, hpw, _⟩ := hD.entries strK
  obtain ⟨es', hD', hko⟩ := hD.keysOf
  obtain rfl : es = es' := by rw [hDe] at hD'; simpa using hD'
  subst hDe
  refine perm_strKeys hpw (fun p hp => by obtain ⟨v, hv⟩ := hko p hp; obtain ⟨x, _, hx, _⟩ := Maps.keyOf_str Tryz.underlying9 hv; exact ⟨x, hx⟩) ?_ (fun x => ?_)
  · unfold Apart at ha
    refine List.pairwise_map.2 (ha.imp fun {a b} hne e => hne (str_inj e))
  · have h1 := hr ⟨x.toArray⟩
    rw [show strL ⟨x.toArray⟩ = Lit.string x by simp [strL]] at h1
    rw [h1, hasN_iff]
    constructor
    · intro hx
      obtain ⟨y, hy, e⟩ := List.mem_map.1 hx
      exact ⟨y, hy, by subst e; exact (bs_str _).symm⟩
    · rintro ⟨y, hy, e⟩
      exact List.mem_map.2 ⟨y, hy, by rw [e]; simp [str]⟩
set_option maxRecDepth 100000 in
set_option maxHeartbeats 4000000 in
theorem din_any (b : Nat) (l : NameL) (w : World) (h : NMat w b l) (hx : ∀ x ∈ l, x.1.size ≤ 1000000) (hl : l.length ≤ 1000000) :
    Calls Tryz.prog 62 #[.map (some b)] w fun e w' => ∃ v, e = .returned v ∧ w'.ownsRow (w.heap.size + 1) 9 1 v l.length ((PDisk.sortN l).map fun x => .string x.1) ∧ Off [] w w' := by
  obtain ⟨ha, D, hD, hs, hr⟩ := h
  have hkeys := NMat.keys ha hD (fun p => (hr p).1)
  have hlen : (strKeys D).length = l.length := by rw [← hkeys.length_eq, List.length_map]
  have hK : Calls Tryz.prog 97 #[.map (some b)] w fun e w' => e = .returned (.func (.func 131) #[] #[.pointer (some ⟨w.heap.size, 0, none⟩)]) ∧ w' = w.alloc (.cells #[.map (some b)] 95) :=
    callsIn_wide.1 (AnyZ.keys_in Tryz.keys7 Fence.wide 5 trivial rfl (some b) w)
  have hseq : SeqGives Fence.wide 3 Tryz.prog 131 #[.pointer (some ⟨w.heap.size, 0, none⟩)] encStr (fun ss => ss.Perm (strKeys D)) (Maps.size D) (w.alloc (.cells #[.map (some b)] 95)) :=
    AnyZ.keys_gives (ρ := Tryz.keys7_ren) { Tryz.keys7 with } Fence.wide _ trivial rfl (by omega) w.heap.size b l.length D _ (by simp) (by simp) (ownsMap_off hD ((Off.refl [] w).alloc _) (by simp))
  have hC : Calls Tryz.prog 129 #[.func (.func 131) #[] #[.pointer (some ⟨w.heap.size, 0, none⟩)]] (w.alloc (.cells #[.map (some b)] 95)) fun e w' => ∃ (v : Value) (xs : List ByteArray), e = .returned v ∧ xs.Perm (l.map (·.1)) ∧ w'.ownsRow (w.heap.size + 1) 9 1 v xs.length (xs.map Value.string) ∧ Off [] w w' := by
    refine (callsIn_wide.1 (AnyZ.collect_in Tryz.coll8 Fence.wide 5 trivial trivial rfl (by omega) 131 #[.pointer (some ⟨w.heap.size, 0, none⟩)] trivial (enters_of Tryz.func131 (by kernel_rfl) rfl) _ (Maps.size D) (by rw [hs]; unfold maxLen; omega) (by rw [hs]; omega) _ hseq)).mono ?_
    rintro e w' ⟨v, ss, rfl, hS, hrow, _, hb⟩
    refine ⟨v, ss.map bs, rfl, ?_, ?_, ?_⟩
    · have := (hS.trans hkeys.symm).map bs
      rw [List.map_map] at this
      simpa [Function.comp_def, bs_str] using this
    · rw [List.length_map, List.map_map]
      have := hrow
      rw [World.size_alloc] at this
      exact this
    · exact ((Off.refl [] w).alloc _).trans_nil (Off.of_below hb)
  have HK := Lib.hid hK
  have HC := Lib.hid hC
  have HX := Lib.hid hx
  have HL := Lib.hid hl
  clear hK hC hseq hkeys hlen hr hs hD D hx hl ha
  have hSF : Calls Tryz.prog 96 #[.func (.func 131) #[] #[.pointer (some ⟨w.heap.size, 0, none⟩)], .func (.func 87) #[] #[]] (w.alloc (.cells #[.map (some b)] 95)) fun e w' => ∃ v, e = .returned v ∧ w'.ownsRow (w.heap.size + 1) 9 1 v l.length ((PDisk.sortN l).map fun x => .string x.1) ∧ Off [] w w' := by
    go_enter Tryz.func96, Tryz.ntmps96
    go_wp2_with fail
    refine HC.out.mono ?_
    rintro e w1 ⟨v, xs, rfl, hp, hrow, ho⟩
    have HP := Lib.hid hp
    have hS := sortf_own hrow (w0 := w) (by omega) ho (fun x hx => by
      obtain ⟨y, hy, rfl⟩ := List.mem_map.1 (hp.mem_iff.1 hx)
      exact HX.out y hy) (by rw [hp.length_eq, List.length_map]; exact HL.out)
    have HS := Lib.hid hS
    clear hp hrow ho hS
    go_wp2_with fail
    refine HS.out.mono ?_
    rintro e w2 ⟨rfl, hrow, ho⟩
    go_wp2_with fail
    go_ret
    refine ⟨v, rfl, ?_, ho⟩
    have e1 : (sortB xs).map Value.string = (PDisk.sortN l).map fun x => .string x.1 := by
      rw [sortB_perm HP.out, ← sortN_fst, List.map_map]; rfl
    rw [e1, HP.out.length_eq, List.length_map] at hrow
    exact hrow
  have HSF := Lib.hid hSF
  clear hSF
  go_enter Tryz.func62, Tryz.ntmps62
  go_wp2_with fail
  refine HK.out.mono ?_
  rintro e w1 ⟨rfl, rfl⟩
  go_wp2_with fail
  refine HSF.out.mono ?_
  rintro e w2 ⟨v, rfl, hrow, ho⟩
  go_wp2_with fail
  go_ret
  exact ⟨v, rfl, hrow, ho⟩
end Go.Proofs.YtgcfkljooabjjaaGreatDoor

/- A disk's Tree: the walk. Conditions: what the contract states. -/
namespace Go.Proofs.YtgcfkljooabjjaaGreatDoor
open Go.RowKit Go.Op Go.Maps

theorem lookN_mem {l : NameL} (ha : Apart l) {x : ByteArray × Nat} (hx : x ∈ l) : lookN l x.1 = x.2 := by
  induction l with
  | nil => cases hx
  | cons y l ih =>
    obtain ⟨h1, h2⟩ := List.pairwise_cons.1 ha
    unfold lookN
    rcases List.mem_cons.1 hx with rfl | hx
    · rw [if_pos rfl]
    · rw [if_neg (h1 x hx)]
      exact ih h2 hx
theorem sortN_mem {l : NameL} {x : ByteArray × Nat} : x ∈ PDisk.sortN l ↔ x ∈ l := by unfold PDisk.sortN; exact List.mem_mergeSort
theorem sortN_len (l : NameL) : (PDisk.sortN l).length = l.length := by unfold PDisk.sortN; exact List.length_mergeSort l
def nodeOf (D : PDisk) (x : ByteArray × Nat) : Node := match D.inode x.2 with | some n => { n.node with path := x.1 } | none => ⟨x.1, 0, ⟨#[]⟩, 0⟩
/-- each name leads to an inode -/
theorem Ok.inode {D : PDisk} {n : Nat} (h : Ok D n) (ha : Apart D.names) {x : ByteArray × Nat} (hx : x ∈ D.names) : ∃ m, D.inode x.2 = some m ∧ D.at_ x.1 = some m := by
  have h1 := lookN_mem ha hx
  obtain ⟨h2, h3⟩ := h.names x.1
  have h4 := (h3 ((hasN_iff _ _).2 ⟨x, hx, rfl⟩)).1
  rw [h1] at h2 h4
  have hl : x.2 - 1 < D.inos.length := by omega
  have h5 : D.inode x.2 = some D.inos[x.2 - 1] := by
    unfold PDisk.inode
    rw [if_neg (by omega), List.getElem?_eq_getElem hl]
  exact ⟨_, h5, by unfold PDisk.at_; rw [h1, h5]⟩
theorem Ok.size {D : PDisk} {n : Nat} (h : Ok D n) {x : ByteArray × Nat} (hx : x ∈ D.names) : x.1.size ≤ 400 := ((h.names x.1).2 ((hasN_iff _ _).2 ⟨x, hx, rfl⟩)).2
theorem filterMap_some {α β : Type} (f : α → Option β) (g : α → β) : ∀ (l : List α), (∀ x ∈ l, f x = some (g x)) → l.filterMap f = l.map g
  | [], _ => rfl
  | x :: l, h => by
    rw [List.filterMap_cons_some (h x (List.mem_cons_self ..)), List.map_cons, filterMap_some f g l (fun y hy => h y (List.mem_cons_of_mem _ hy))]
theorem Ok.tree {D : PDisk} {n : Nat} (h : Ok D n) (ha : Apart D.names) : D.tree = (PDisk.sortN D.names).map (nodeOf D) := by
  unfold PDisk.tree
  refine filterMap_some _ _ _ fun x hx => ?_
  obtain ⟨m, h1, -⟩ := h.inode ha (sortN_mem.1 hx)
  unfold nodeOf
  rw [h1]
  rfl
theorem nd_four_at {w : World} {g : Nat} {t : TypeId} {a b c d : Value} (h : Blk w g t #[a, b, c, d]) : ∀ j u, [a, b, c, d][j]? = some u → w.cell? ((⟨g, 0, none⟩ : Addr).add j) = some u := by
  intro j u hj
  rw [addr_add, h.cell]
  simpa using hj
set_option maxRecDepth 100000 in
set_option maxHeartbeats 8000000 in
theorem dtree_call (p n : Nat) (G : Geo) (D : PDisk) (w : World) (h : DS w p G D n) (hn : n ≤ 100000) :
    Calls Tryz.prog 24 #[.pointer (some ⟨p, 0, none⟩)] w fun e w' => ∃ v, e = .returned v ∧ w'.ownsRow w.heap.size 30 4 v D.tree.length (cellsOf D.tree) ∧ Off [] w w' := by
  obtain ⟨i0, hi0, hz0, hz1, hz2⟩ := info_parts infoNode
  have H := Lib.hid h
  have ha := h.m.parts.names.1
  have HA := Lib.hid ha
  have hT := h.ok.tree ha
  obtain ⟨S, hS⟩ : ∃ S, PDisk.sortN D.names = S := ⟨_, rfl⟩
  rw [hS] at hT
  have hSm : ∀ x ∈ S, x ∈ D.names := fun x hx => sortN_mem.1 (hS ▸ hx)
  have hSl : S.length = D.names.length := by rw [← hS, sortN_len]
  have hIN := din_any G.nb D.names w h.m.parts.names (fun x hx => Nat.le_trans (h.ok.size hx) (by decide)) (by have := h.ok.nlen; omega)
  rw [hS, ← hSl] at hIN
  have hSb : S.length ≤ 1000000 := by have := h.ok.nlen; omega
  have HIN := Lib.hid hIN
  have HSM := Lib.hid hSm
  rw [hT, List.length_map]
  obtain ⟨L, hL⟩ : ∃ L, S.length = L := ⟨_, rfl⟩
  have HL := Lib.hid hL
  rw [hL] at hSb
  have hc := h.m.blk.cell
  unfold diskCells at hc
  clear h ha hT hS hSm hSl hIN
  rw [hL]
  clear hL
  go_enter Tryz.func24, Tryz.ntmps24
  go_wp2_with fail
  refine HIN.out.mono ?_
  rintro e w1 ⟨v, rfl, hrow, ho1⟩
  have hrow' : w1.ownsRow (w.heap.size + 1) 9 1 v (S.map (·.1)).length ((S.map (·.1)).map Value.string) := by
    rw [List.length_map, List.map_map]; exact hrow
  obtain ⟨pl, cap, rfl, hcell⟩ := own_strs hrow'
  rw [List.length_map, HL.out]
  have HCELL := Lib.hid hcell
  have HO1 := Lib.hid ho1
  clear hrow hrow' hcell ho1 hc
  go_wp2_with fail
  go_loopw [15, 3] (fun x v wr => ∃ i : Nat, x = .int .i64 i ∧ i ≤ L ∧ wr.ownsRow w1.heap.size 30 4 v i (cellsOf ((S.map (nodeOf D)).take i)) ∧ Off [] w1 wr) (fun x _ _ => L - (intOf x).toNat)
  case atStart => exact ⟨0, rfl, by omega, ⟨rfl, .inl ⟨rfl, rfl⟩⟩, Off.refl _ _⟩
  case round =>
    obtain ⟨i, rfl, hi, hown, ho⟩ := hrel
    have HO := Lib.hid ho
    have HOWN := Lib.hid hown
    by_cases hlt : i < L
    · have hiS : i < S.length := by rw [HL.out]; exact hlt
      obtain ⟨x, hx⟩ : ∃ x, S[i]? = some x := ⟨_, List.getElem?_eq_getElem hiS⟩
      have hxm := HSM.out x (List.mem_of_getElem? hx)
      obtain ⟨gs, rfl, hgs, hcs⟩ := HCELL.out i x.1 (by rw [List.getElem?_map, hx]; rfl)
      have hcs2 : wr.cell? ⟨gs, i, none⟩ = some (.string x.1) := (ho.cell (p := ⟨gs, i, none⟩) hgs (by simp)).trans hcs
      obtain ⟨m, hm1, hm2⟩ := H.out.ok.inode HA.out hxm
      have HD := H.out.off (HO1.out.trans_nil ho)
      obtain ⟨q, hq1, hq2, -, -, -⟩ := at_some HD.m hm2
      have HAT := Lib.hid (dat_some p G D x.1 wr HD.m (by have := H.out.ok.size hxm; unfold maxLen; omega) (HD.ok.look (by omega) _) q hq1)
      have HQ := Lib.hid hq2
      have hTK : (S.map (nodeOf D)).take (i + 1) = (S.map (nodeOf D)).take i ++ [⟨x.1, m.node.kind, m.node.data, m.node.mode⟩] := by
        have : (S.map (nodeOf D))[i]? = some ⟨x.1, m.node.kind, m.node.data, m.node.mode⟩ := by
          rw [List.getElem?_map, hx]
          show some (nodeOf D x) = _
          unfold nodeOf; rw [hm1]
        rw [List.take_add_one, this]; rfl
      have HTK := Lib.hid hTK
      have hilt : (i : Int) < L := by omega
      generalize x.1 = path at *
      clear hxm hx hcs hm1 hm2 HD hq1 hq2 hTK ho hown
      go_wp2_with fail
      refine HAT.out.mono ?_
      rintro e w2 ⟨rfl, ho2⟩
      have hB := HQ.out.off ho2 (by simp)
      have HB := Lib.hid hB
      have hcq := hB.cell
      have hfq := hB.frozen
      have hlq := hB.lt
      have HO2 := Lib.hid ho2
      unfold inoCells at hcq
      clear ho2 hB hcs2
      have hown2 := own_offk (k := []) HOWN.out HO2.out (by simp)
      have hlw : w1.heap.size ≤ w2.heap.size := Nat.le_trans HO.out.size HO2.out.size
      have hnB := (hown2.alloc (.cells #[.string path, .int .i64 m.node.kind, .string m.node.data, .int .i64 m.node.mode] 30)).alloc (.cells #[.string path, .int .i64 m.node.kind, .string m.node.data, .int .i64 m.node.mode] 30)
      clear hown2
      go_wp2_with (at_builtin; refine wpList_append_own _ rfl _ _ 31 rfl w1.heap.size 30 i0 node0.val 4 48 Tryz.underlying31 hi0 hz0 hz1 hz2 rfl (by decide) _ _ _ rfl hnB ⟨w2.heap.size + 1, 0, none⟩ 1 1 [_, _, _, _] rfl rfl (nd_four_at (Blk.new1 w2 _ _ _)) (by simp [Value.oneCell']) (by unfold maxLen; omega) (by omega) (by simp; omega) ?_; intro v' W6 hown' hgrow _)
      refine ⟨⟨i + 1, by congr 1, by omega, ?_, ?_⟩, by simp only [intOf]; omega⟩
      · rw [HTK.out, cellsOf_append]
        exact hown'
      · exact own_grown (((HO.out.trans_nil HO2.out).alloc _).alloc _) hnB hgrow
    · obtain rfl : i = L := by omega
      clear hown ho
      go_wp2_with fail
      go_ret
      refine ⟨_, rfl, ?_, HO1.out.trans_nil HO.out⟩
      have := HOWN.out
      rw [List.take_of_length_le (by rw [List.length_map, HL.out]; exact Nat.le_refl _)] at this
      exact ownsRow_base_a this HO1.out.size
end Go.Proofs.YtgcfkljooabjjaaGreatDoor

/- A disk in a run that began at a world: the calls, told by what a row's walk holds. Conditions: what each contract states. -/
namespace Go.Proofs.YtgcfkljooabjjaaGreatDoor
open Go.RowKit Go.Op Go.Maps

/-- a disk that was made since the world w0 -/
def Run (w0 w : World) (p : Nat) (D : PDisk) (n : Nat) : Prop := ∃ G, DS w p G D n ∧ Off [] w0 w ∧ w0.heap.size ≤ p ∧ ∀ b ∈ G.parts, w0.heap.size ≤ b
theorem Run.next {w0 w w' : World} {p n' : Nat} {D' : PDisk} {G : Geo} (ho : Off [] w0 w) (hp : w0.heap.size ≤ p) (hb : ∀ b ∈ G.parts, w0.heap.size ≤ b) (k : DSTo w p G.parts w' D' n') : Run w0 w' p D' n' := by
  obtain ⟨G', h1, h2, h3⟩ := k
  refine ⟨G', h1, ho.trans h2 (fun x hx hm => ?_), hp, fun b hb' => ?_⟩
  · exfalso
    rcases List.mem_cons.1 hm with rfl | hm
    · omega
    · have := hb x hm; omega
  · rcases h3 b hb' with h | h
    · exact hb b h
    · exact Nat.le_trans ho.size h
theorem Run.off {w0 w w' : World} {p n : Nat} {D : PDisk} (h : Run w0 w p D n) (ho : Off [] w w') : Run w0 w' p D n := by
  obtain ⟨G, h1, h2, h3, h4⟩ := h
  exact ⟨G, h1.off ho, h2.trans_nil ho, h3, h4⟩
theorem Run.since {w0 w : World} {p n : Nat} {D : PDisk} (h : Run w0 w p D n) : Off [] w0 w := by obtain ⟨_, _, h2, _⟩ := h; exact h2
theorem Run.tabs {w0 w : World} {p n : Nat} {D : PDisk} (h : Run w0 w p D n) : Tabs w := by obtain ⟨_, h1, _⟩ := h; exact h1.tabs.tabs
theorem Run.le {w0 w : World} {p n m : Nat} {D : PDisk} (h : Run w0 w p D n) (hm : n ≤ m) : Run w0 w p D m := by
  obtain ⟨G, h1, h2⟩ := h
  exact ⟨G, ⟨h1.m, h1.sb, PDisk.ok_mono h1.ok hm, h1.tabs⟩, h2⟩
/-- an older block was written -/
theorem Run.rebase {wb w0 w w' : World} {p n : Nat} {D : PDisk} {k : List Nat} (h : Run w0 w p D n) (hT : Tabs wb) (hb : Off [] wb w') (ho : Off k w w') (hk : ∀ x ∈ k, x < w0.heap.size) (hsz : wb.heap.size ≤ w0.heap.size) : Run wb w' p D n := by
  obtain ⟨G, h1, h2, h3, h4⟩ := h
  have h5 : wb.heap.size ≤ p := Nat.le_trans hsz h3
  have h6 : ∀ b ∈ G.parts, wb.heap.size ≤ b := fun b hb => Nat.le_trans hsz (h4 b hb)
  exact ⟨G, ⟨h1.m.off ho (fun hm => by have := hk p hm; omega) (fun b hb hm => by have := hk b hm; have := h4 b hb; omega), h1.sb, h1.ok, TabsX.of hT hb h5 h6⟩, hb, h5, h6⟩
section
variable {w0 w : World} {p n : Nat} {D : PDisk}
theorem run_write (h : Run w0 w p D n) (hn : n ≤ 1000000) (path data : ByteArray) (mode : Int) (hs : path.size ≤ 9223372036854775807) :
    Calls Tryz.prog 16 #[.pointer (some ⟨p, 0, none⟩), .string path, .string data, .int .i64 mode] w fun e w' => e = .returned (.int .i64 (D.write path data mode).1) ∧ Run w0 w' p (D.write path data mode).2 (n + 2) := by
  obtain ⟨G, h1, h2, h3, h4⟩ := h
  exact (dwrite_call p n G D path data mode w h1 hn hs).mono fun e w' ⟨he, hT⟩ => ⟨he, Run.next h2 h3 h4 hT⟩
theorem run_sync (h : Run w0 w p D n) (hn : n ≤ 1000000) (path : ByteArray) (hs : path.size ≤ 9223372036854775807) :
    Calls Tryz.prog 17 #[.pointer (some ⟨p, 0, none⟩), .string path] w fun e w' => e = .returned (.int .i64 (D.sync path).1) ∧ Run w0 w' p (D.sync path).2 (n + 2) := by
  obtain ⟨G, h1, h2, h3, h4⟩ := h
  exact (dsync_call p n G D path w h1 hn hs).mono fun e w' ⟨he, hT⟩ => ⟨he, Run.next h2 h3 h4 hT⟩
theorem run_replace (h : Run w0 w p D n) (hn : n ≤ 1000000) (path q : ByteArray) (hs : path.size ≤ 9223372036854775807) (hq : q.size ≤ 9223372036854775807) :
    Calls Tryz.prog 18 #[.pointer (some ⟨p, 0, none⟩), .string path, .string q] w fun e w' => e = .returned (.int .i64 (D.replace path q).1) ∧ Run w0 w' p (D.replace path q).2 (n + 2) := by
  obtain ⟨G, h1, h2, h3, h4⟩ := h
  exact (dreplace_call p n G D path q w h1 hn hs hq).mono fun e w' ⟨he, hT⟩ => ⟨he, Run.next h2 h3 h4 hT⟩
theorem run_flush (h : Run w0 w p D n) (hn : n ≤ 1000000) :
    Calls Tryz.prog 19 #[.pointer (some ⟨p, 0, none⟩)] w fun e w' => e = .returned (.int .i64 D.flush.1) ∧ Run w0 w' p D.flush.2 (n + 2) := by
  obtain ⟨G, h1, h2, h3, h4⟩ := h
  exact (flush_call p n G D w h1 hn).mono fun e w' ⟨he, hT⟩ => ⟨he, Run.next h2 h3 h4 hT⟩
theorem run_get (h : Run w0 w p D n) (hn : n ≤ 1000000) (path : ByteArray) (hs : path.size ≤ 9223372036854775807) :
    Calls Tryz.prog 20 #[.pointer (some ⟨p, 0, none⟩), .string path] w fun e w' => e = .returned (getVal (D.get path).1) ∧ Run w0 w' p (D.get path).2 (n + 1) := by
  obtain ⟨G, h1, h2, h3, h4⟩ := h
  exact (dget_call p n G D path w h1 hn hs).mono fun e w' ⟨he, hT⟩ => ⟨he, Run.next h2 h3 h4 hT⟩
theorem run_boot (h : Run w0 w p D n) (fp : Option Addr) (fs : List FateP) (nf c : Nat) (hF : FRow w fp fs) (hn : fs.length = nf) (hb : nf ≤ 1000000) (hpn : fp = none → fs = []) :
    Calls Tryz.prog 15 #[.pointer (some ⟨p, 0, none⟩), .slice fp nf c, .slice none 0 0] w fun e w' => e = .returned (.tuple #[]) ∧ Run w0 w' p (D.boot fs) n := by
  obtain ⟨G, h1, h2, h3, h4⟩ := h
  exact (dboot_call p n G D fp fs nf c w h1 hF hn hb hpn).mono fun e w' ⟨he, hT⟩ => ⟨he, Run.next h2 h3 h4 hT⟩
theorem run_on (h : Run w0 w p D n) : Calls Tryz.prog 36 #[.pointer (some ⟨p, 0, none⟩)] w fun e w' => e = .returned (.bool (!D.off)) ∧ Run w0 w' p D n := by
  obtain ⟨G, h1, h2, h3, h4⟩ := h
  exact (don_any p G D w h1.m).mono fun e w' ⟨he, ho⟩ => ⟨he, Run.next h2 h3 h4 (h1.same ho)⟩
theorem run_tree (h : Run w0 w p D n) (hn : n ≤ 100000) : Calls Tryz.prog 24 #[.pointer (some ⟨p, 0, none⟩)] w fun e w' => ∃ v, e = .returned v ∧ w'.ownsRow w.heap.size 30 4 v D.tree.length (cellsOf D.tree) ∧ Off [] w w' ∧ Run w0 w' p D n := by
  have h' := h
  obtain ⟨G, h1, h2, h3, h4⟩ := h
  exact (dtree_call p n G D w h1 hn).mono fun e w' ⟨v, he, hr, ho⟩ => ⟨v, he, hr, ho, h'.off ho⟩
end
theorem nmOf_look : ∀ (a : List Node) (i : Nat) (p : ByteArray), lookN (nmOf a i) p ≤ i + a.length ∧ (hasN (nmOf a i) p = true → i + 1 ≤ lookN (nmOf a i) p)
  | [], i, p => ⟨Nat.zero_le _, fun h => by simp [nmOf, hasN] at h⟩
  | n :: a, i, p => by
    obtain ⟨h1, h2⟩ := nmOf_look a (i + 1) p
    unfold nmOf lookN
    by_cases e : n.path = p
    · rw [if_pos e]
      exact ⟨by simp only [List.length_cons]; omega, fun _ => Nat.le_refl _⟩
    · rw [if_neg e]
      refine ⟨by simp only [List.length_cons]; omega, fun h => ?_⟩
      have := h2 (by simpa [hasN, e] using h)
      omega
theorem newD_ok {t : List Node} (hok : okTree t = true) : Ok (newD t) 0 := by
  have hl := okTree_len hok
  have hN : NOk (newD t).inos.length (nmOf t 0) := fun x => by
    obtain ⟨h1, h2⟩ := nmOf_look t 0 x
    refine ⟨by simp [newD, newD']; omega, fun h => ⟨by have := h2 h; omega, ?_⟩⟩
    obtain ⟨n, hn, rfl⟩ := (nmOf_has _ _ _).1 h
    exact okTree_small hok hn
  exact ⟨hN, hN, fun l hl => by simp [newD, newD'] at hl, by simp [newD, newD'], by simp [newD, newD']; omega, by simp [newD, newD'], by simp [newD, newD'], by simp [newD, newD'], by simp [newD, newD', nmOf_len]; omega, by simp [newD, nmOf_len]; omega, fun l hl => by simp [newD, newD'] at hl⟩
/-- a new disk -/
theorem run_new (fp : Option Addr) (t : List Node) (n c : Nat) (w0 w : World) (hof : Off [] w0 w) (hT : Tabs w0) (hR : Row w fp t) (hn : t.length = n) (hc : n ≤ c) (hok : okTree t = true) (hF : Fits t) :
    Calls Tryz.prog 14 #[.slice fp n c] w fun e w' => ∃ gd, e = .returned (.tuple #[.pointer (some ⟨gd, 0, none⟩), .int .i64 0]) ∧ Run w0 w' gd (newD t) 0 := by
  refine (dnew_ok fp t n c w hR hn hc hok hF (hT.off hof)).mono ?_
  rintro e w' ⟨gd, G, he, hM, hgd, hpl, hsb, ho⟩
  have h1 := Nat.le_trans hof.size hgd
  have h2 : ∀ b ∈ G.parts, w0.heap.size ≤ b := fun b hb => Nat.le_trans hof.size (hpl b hb)
  exact ⟨gd, he, G, ⟨hM, hsb, newD_ok hok, TabsX.of hT (hof.trans_nil ho) h1 h2⟩, hof.trans_nil ho, h1, h2⟩
end Go.Proofs.YtgcfkljooabjjaaGreatDoor

/- The plain law of DiskWhole: wherever the crash comes, the old file or the new one is there. Conditions: none beyond what each lemma states. -/
namespace Go.Proofs.YtgcfkljooabjjaaGreatDoor
open PDisk

def nmF : ByteArray := ⟨#[102]⟩
def nmG : ByteArray := ⟨#[103]⟩
theorem okF : okPath (str nmF) = true := by decide +kernel
theorem okG : okPath (str nmG) = true := by decide +kernel
theorem parF : bs (parent (str nmF)) = ⟨#[]⟩ := by decide +kernel
theorem parG : bs (parent (str nmG)) = ⟨#[]⟩ := by decide +kernel
theorem neFG : nmF ≠ nmG := by decide
theorem no_ok {p : ByteArray} (h : okPath (str p) = true) : PDisk.no p = (false, 11) := by unfold PDisk.no; rw [h]; rfl
theorem par_root {p : ByteArray} (D : PDisk) (h : bs (parent (str p)) = ⟨#[]⟩) : D.parentE p = (false, 62) := by
  unfold PDisk.parentE PDisk.dir
  rw [h]
  rfl
/-- a step that meets no fate -/
theorem step_quiet {D : PDisk} (c p q : ByteArray) (h : D.off = false) (hf : ∀ f ∈ D.fates, f.at_ ≠ D.trace.length) : D.step c p q = (false, 0, { D with clock := D.clock + 1, trace := D.trace ++ [⟨c, p, q⟩] }) := by
  unfold PDisk.step
  rw [h]
  have : D.fates.find? (fun f => decide (f.at_ = (D.trace.length : Int))) = none := List.find?_eq_none.2 (fun f hm => by simpa using hf f hm)
  simp [this]
/-- a step at which the disk crashes -/
theorem step_crash {D : PDisk} (c p q : ByteArray) (f : FateP) (h : D.off = false) (hf : D.fates = [f]) (ha : f.at_ = D.trace.length) (hw : f.what = 3) : D.step c p q = (false, 75, ({ D with clock := D.clock + 1, trace := D.trace ++ [⟨c, p, q⟩] } : PDisk).crash f) := by
  unfold PDisk.step
  rw [h, hf]
  simp [ha, hw]
/-- what Get finds on a disk that was booted without fates -/
theorem get_boot {D : PDisk} {p : ByteArray} {n : Ino} (hp : p ≠ ⟨#[]⟩) (ho : okPath (str p) = true) (h : D.at_ p = some n) : ((D.boot []).get p).1 = (0, { n.node with path := p }, (lookN D.names p : Int), (n.node.data.size : Int), n.time) := by
  have hs := step_quiet (D := D.boot []) ⟨#[71, 101, 116]⟩ p ⟨#[]⟩ rfl (fun f hf => by cases hf)
  unfold PDisk.get
  rw [hs]
  simp only [ne_eq, not_true_eq_false, if_false]
  unfold PDisk.get_
  rw [if_neg hp, no_ok ho]
  have h2 : ({ D.boot [] with clock := (D.boot []).clock + 1, trace := (D.boot []).trace ++ [⟨⟨#[71, 101, 116]⟩, p, ⟨#[]⟩⟩] } : PDisk).at_ p = some n := h
  unfold PDisk.gone
  rw [h2]
  rfl
/-- the file's name leads to one of two texts, whole -/
def LeadsTo (D : PDisk) (l : NameL) (a b : ByteArray) : Prop := ∃ n, D.inode (lookN l nmF) = some n ∧ n.dirty = false ∧ (n.node.data = a ∨ n.node.data = b)
theorem tear_clean {t : Int} {n : Ino} (h : n.dirty = false) : PDisk.tear t n = n := by unfold PDisk.tear; rw [h]; rfl
theorem crash_names (D : PDisk) (f : FateP) : (D.crash f).names = D.safe ∨ (D.crash f).names ∈ D.later := by
  show (match D.later[(min f.keep (D.later.length : Int)).toNat - 1]? with | some l => if 0 < min f.keep (D.later.length : Int) then l else D.safe | none => D.safe) = D.safe ∨ (match D.later[(min f.keep (D.later.length : Int)).toNat - 1]? with | some l => if 0 < min f.keep (D.later.length : Int) then l else D.safe | none => D.safe) ∈ D.later
  split
  · rename_i y hy
    split
    · exact .inr (List.mem_of_getElem? hy)
    · exact .inl rfl
  · exact .inl rfl
theorem crash_inode (D : PDisk) (f : FateP) (i : Nat) : (D.crash f).inode i = (D.inode i).map (tear f.torn) := by
  unfold PDisk.inode
  split
  · rfl
  · show (D.inos.map (tear f.torn))[i - 1]? = _
    rw [List.getElem?_map]
theorem crash_leads {D : PDisk} {f : FateP} {a b : ByteArray} (hs : LeadsTo D D.safe a b) (hl : ∀ l ∈ D.later, LeadsTo D l a b) : LeadsTo (D.crash f) (D.crash f).names a b := by
  have key : LeadsTo D (D.crash f).names a b := by
    rcases crash_names D f with h | h
    · rw [h]; exact hs
    · exact hl _ h
  obtain ⟨n, h1, h2, h3⟩ := key
  exact ⟨n, by rw [crash_inode, h1]; show some (tear f.torn n) = some n; rw [tear_clean h2], h2, h3⟩
theorem leads_get {D : PDisk} {a b : ByteArray} (h : LeadsTo D D.names a b) : ∃ nd i s t, ((D.boot []).get nmF).1 = (0, nd, i, s, t) ∧ (nd.data = a ∨ nd.data = b) := by
  obtain ⟨n, h1, _, h3⟩ := h
  exact ⟨_, _, _, _, get_boot (by decide) okF h1, h3⟩
/-! ### the run -/
section
variable (old new : ByteArray) (f : FateP)
def wS0 : PDisk := (newD [⟨nmF, 1, old, 0⟩]).boot [f]
def wS1 : PDisk := ⟨[(nmF, 1), (nmG, 2)], [(nmF, 1)], [[(nmF, 1), (nmG, 2)]], [⟨⟨nmF, 1, old, 0⟩, 0, false⟩, ⟨⟨⟨#[]⟩, 1, new, 0⟩, 1, true⟩], false, 1, [⟨⟨#[87, 114, 105, 116, 101]⟩, nmG, ⟨#[]⟩⟩], [f]⟩
def wS2 : PDisk := ⟨[(nmF, 1), (nmG, 2)], [(nmF, 1)], [[(nmF, 1), (nmG, 2)]], [⟨⟨nmF, 1, old, 0⟩, 0, false⟩, ⟨⟨⟨#[]⟩, 1, new, 0⟩, 1, false⟩], false, 2, [⟨⟨#[87, 114, 105, 116, 101]⟩, nmG, ⟨#[]⟩⟩, ⟨⟨#[83, 121, 110, 99]⟩, nmG, ⟨#[]⟩⟩], [f]⟩
def wS3 : PDisk := ⟨[(nmF, 2)], [(nmF, 1)], [[(nmF, 1), (nmG, 2)], [(nmF, 2)]], [⟨⟨nmF, 1, old, 0⟩, 0, false⟩, ⟨⟨⟨#[]⟩, 1, new, 0⟩, 1, false⟩], false, 3, [⟨⟨#[87, 114, 105, 116, 101]⟩, nmG, ⟨#[]⟩⟩, ⟨⟨#[83, 121, 110, 99]⟩, nmG, ⟨#[]⟩⟩, ⟨⟨#[82, 101, 112, 108, 97, 99, 101]⟩, nmG, nmF⟩], [f]⟩
variable {old new f}
theorem whl0 (hn : new.size ≤ 65536) (hw : f.what = 3) : (f.at_ ≠ 0 ∧ (wS0 old f).write nmG new 0 = (0, wS1 old new f)) ∨ (((wS0 old f).write nmG new 0).1 = 75 ∧ LeadsTo ((wS0 old f).write nmG new 0).2 ((wS0 old f).write nmG new 0).2.names old new) := by
  by_cases ha : f.at_ = 0
  · right
    unfold PDisk.write PDisk.call
    rw [step_crash (D := (wS0 old f)) _ _ _ f rfl rfl ha hw]
    refine ⟨rfl, crash_leads ⟨⟨⟨nmF, 1, old, 0⟩, 0, false⟩, rfl, rfl, .inl rfl⟩ (fun l hl => by cases hl)⟩
  · left
    refine ⟨ha, ?_⟩
    unfold PDisk.write PDisk.call
    rw [step_quiet (D := (wS0 old f)) _ _ _ rfl (by intro g hg; simp [wS0, PDisk.boot] at hg; subst hg; simpa [wS0, PDisk.boot] using ha)]
    simp only [ne_eq, not_true_eq_false, if_false]
    unfold PDisk.write_ PDisk.lay
    rw [no_ok okG, par_root _ parG]
    have h1 : decide (65536 < new.size) = false := decide_eq_false (by omega)
    rw [h1]
    rfl
theorem whl1 (hw : f.what = 3) (h0 : f.at_ ≠ 0) : (f.at_ ≠ 1 ∧ (wS1 old new f).sync nmG = (0, wS2 old new f)) ∨ (((wS1 old new f).sync nmG).1 = 75 ∧ LeadsTo ((wS1 old new f).sync nmG).2 ((wS1 old new f).sync nmG).2.names old new) := by
  by_cases ha : f.at_ = 1
  · right
    unfold PDisk.sync PDisk.call
    rw [step_crash (D := (wS1 old new f)) _ _ _ f rfl rfl ha hw]
    refine ⟨rfl, crash_leads ⟨⟨⟨nmF, 1, old, 0⟩, 0, false⟩, rfl, rfl, .inl rfl⟩ (fun l hl => ?_)⟩
    simp [wS1] at hl
    subst hl
    exact ⟨⟨⟨nmF, 1, old, 0⟩, 0, false⟩, rfl, rfl, .inl rfl⟩
  · left
    refine ⟨ha, ?_⟩
    unfold PDisk.sync PDisk.call
    rw [step_quiet (D := (wS1 old new f)) _ _ _ rfl (by intro g hg; simp [wS1] at hg; subst hg; simpa [wS1] using ha)]
    simp only [ne_eq, not_true_eq_false, if_false]
    unfold PDisk.sync_
    rw [no_ok okG]
    rfl
theorem whl2 (hw : f.what = 3) (h0 : f.at_ ≠ 0) (h1 : f.at_ ≠ 1) : (f.at_ ≠ 2 ∧ (wS2 old new f).replace nmG nmF = (0, wS3 old new f)) ∨ (((wS2 old new f).replace nmG nmF).1 = 75 ∧ LeadsTo ((wS2 old new f).replace nmG nmF).2 ((wS2 old new f).replace nmG nmF).2.names old new) := by
  by_cases ha : f.at_ = 2
  · right
    unfold PDisk.replace PDisk.call
    rw [step_crash (D := (wS2 old new f)) _ _ _ f rfl rfl ha hw]
    refine ⟨rfl, crash_leads ⟨⟨⟨nmF, 1, old, 0⟩, 0, false⟩, rfl, rfl, .inl rfl⟩ (fun l hl => ?_)⟩
    simp [wS2] at hl
    subst hl
    exact ⟨⟨⟨nmF, 1, old, 0⟩, 0, false⟩, rfl, rfl, .inl rfl⟩
  · left
    refine ⟨ha, ?_⟩
    unfold PDisk.replace PDisk.call
    rw [step_quiet (D := (wS2 old new f)) _ _ _ rfl (by intro g hg; simp [wS2] at hg; subst hg; simpa [wS2] using ha)]
    simp only [ne_eq, not_true_eq_false, if_false]
    unfold PDisk.replace_
    rw [no_ok okG, no_ok okF, par_root _ parF]
    rfl
theorem whl3 (hw : f.what = 3) : LeadsTo (wS3 old new f).flush.2 (wS3 old new f).flush.2.names old new := by
  by_cases ha : f.at_ = 3
  · unfold PDisk.flush PDisk.call
    rw [step_crash (D := (wS3 old new f)) _ _ _ f rfl rfl ha hw]
    refine crash_leads ⟨⟨⟨nmF, 1, old, 0⟩, 0, false⟩, rfl, rfl, .inl rfl⟩ (fun l hl => ?_)
    simp [wS3] at hl
    rcases hl with rfl | rfl
    · exact ⟨⟨⟨nmF, 1, old, 0⟩, 0, false⟩, rfl, rfl, .inl rfl⟩
    · exact ⟨⟨⟨⟨#[]⟩, 1, new, 0⟩, 1, false⟩, rfl, rfl, .inr rfl⟩
  · unfold PDisk.flush PDisk.call
    rw [step_quiet (D := (wS3 old new f)) _ _ _ rfl (by intro g hg; simp [wS3] at hg; subst hg; simpa [wS3] using ha)]
    exact ⟨⟨⟨⟨#[]⟩, 1, new, 0⟩, 1, false⟩, rfl, rfl, .inr rfl⟩
end
end Go.Proofs.YtgcfkljooabjjaaGreatDoor

/- hawserlaw07.awake: a closed walk. Conditions: the tables of unicode/utf8 are laid. -/
namespace Go.Proofs.YtgcfkljooabjjaaGreatDoor
open Go.RowKit Go.Op Go.Maps

def nmA : ByteArray := ⟨#[97]⟩
def aw0 : PDisk := (newD []).boot [⟨2, 3, 1, 0⟩]
def aw1 : Int × PDisk := aw0.write nmA ⟨#[120, 121]⟩ 420
def aw2 : Int × PDisk := aw1.2.sync nmA
def aw3 : Int × PDisk := aw2.2.flush
theorem aw1_e : aw1.1 = 0 := by decide +kernel
theorem aw2_e : aw2.1 = 0 := by decide +kernel
theorem aw3_e : aw3.1 = 75 := by decide +kernel
theorem aw3_off : aw3.2.off = true := by decide +kernel
theorem aw3_names : aw3.2.names = [(nmA, 1)] := by decide +kernel
theorem aw3_inos : aw3.2.inos = [⟨⟨⟨#[]⟩, 1, ⟨#[120, 121]⟩, 420⟩, 1, false⟩] := by kernel_rfl
theorem aw3_tree : aw3.2.tree = [⟨nmA, 1, ⟨#[120, 121]⟩, 420⟩] := by
  unfold PDisk.tree PDisk.sortN
  rw [aw3_names, List.mergeSort_singleton]
  unfold PDisk.inode
  rw [aw3_inos]
  rfl
set_option maxRecDepth 100000 in
set_option maxHeartbeats 8000000 in
theorem dawake_any (w : World) (hT : Tabs w) : Calls Tryz.prog 13 #[] w fun e w' => e = .returned (.bool true) ∧ Off [] w w' := by
  have HNEW := Lib.hid (run_new none [] 0 0 w w (Off.refl _ _) hT (fun h => absurd rfl h) rfl (Nat.le_refl _) (by decide +kernel) (fun n hn => by cases hn))
  clear hT
  go_enter Tryz.func13, Tryz.ntmps13
  go_wp2_with fail
  refine HNEW.out.mono ?_
  rintro e w1 ⟨gd, rfl, hr⟩
  have HR := Lib.hid hr
  clear hr HNEW
  go_wp2_with fail
  refine (run_on HR.out).mono ?_
  rintro e w2 ⟨he, hr⟩
  rw [show (!(newD []).off) = true from rfl] at he
  subst he
  have HR2 := Lib.hid hr
  clear hr HR
  go_wp2_with fail
  refine (run_boot (HR2.out.off ((Off.refl [] w2).alloc _)) (some ⟨w2.heap.size, 0, none⟩) [⟨2, 3, 1, 0⟩] 1 1 (FRow.one _ (Blk.new w2 _ _)) rfl (by decide) (fun h => by cases h)).mono ?_
  rintro e w3 ⟨rfl, hr⟩
  have HR3 := Lib.hid hr
  clear hr HR2
  go_wp2_with fail
  refine (run_write (D := aw0) HR3.out (by omega) nmA ⟨#[120, 121]⟩ 420 (by decide)).mono ?_
  rintro e w4 ⟨he, hr⟩
  rw [show (aw0.write nmA ⟨#[120, 121]⟩ 420).1 = 0 from aw1_e] at he
  subst he
  have HR4 := Lib.hid (show Run w w4 gd aw1.2 2 from hr)
  clear hr HR3
  go_wp2_with fail
  refine (run_sync HR4.out (by omega) nmA (by decide)).mono ?_
  rintro e w5 ⟨he, hr⟩
  rw [show (aw1.2.sync nmA).1 = 0 from aw2_e] at he
  subst he
  have HR5 := Lib.hid (show Run w w5 gd aw2.2 4 from hr)
  clear hr HR4
  go_wp2_with fail
  refine (run_flush HR5.out (by omega)).mono ?_
  rintro e w6 ⟨he, hr⟩
  rw [show aw2.2.flush.1 = 75 from aw3_e] at he
  subst he
  have HR6 := Lib.hid (show Run w w6 gd aw3.2 6 from hr)
  clear hr HR5
  go_wp2_with fail
  refine (run_on HR6.out).mono ?_
  rintro e w7 ⟨he, hr⟩
  rw [aw3_off] at he
  subst he
  have HR7 := Lib.hid hr
  clear hr HR6
  go_wp2_with fail
  refine (run_tree HR7.out (by omega)).mono ?_
  rintro e w8 ⟨v, rfl, hrow, ho8, hr⟩
  rw [aw3_tree] at hrow
  obtain ⟨g, cap, rfl, hge, hR⟩ := own_nodes rfl hrow (by decide)
  obtain ⟨a, ea, hna, hab⟩ := hR.get 0 (by decide)
  cases ea
  have hd : w8.cell? ⟨g, 2, none⟩ = some (.string ⟨#[120, 121]⟩) := hna.data
  have HR8 := Lib.hid hr
  clear hr hrow hna hR HR7 ho8
  go_wp2_with fail
  go_ret
  exact ⟨rfl, HR8.out.since⟩
end Go.Proofs.YtgcfkljooabjjaaGreatDoor

/- hawserlaw07.DiskWhole: the walk. Conditions: the tables of unicode/utf8 are laid. -/
namespace Go.Proofs.YtgcfkljooabjjaaGreatDoor
open Go.RowKit Go.Op Go.Maps

theorem okOne {p data : ByteArray} (hp : okPath (str p) = true) (hpar : bs (parent (str p)) = ⟨#[]⟩) (hs : data.size ≤ 65536) : okTree [⟨p, 1, data, 0⟩] = true := by
  have h1 : parent (str p) = [] := by
    have := congrArg str hpar
    rw [str_bs] at this
    exact this
  unfold okTree okFrom okFrom okNext
  have h2 : rightN ⟨p, 1, data, 0⟩ = true := by
    unfold rightN
    simp [hs]
  rw [h2]
  show (decide (1 ≤ 1000) && ((okPath (str p) && true && true && isDir [] (parent (str p))) && true)) = true
  rw [hp, h1]
  rfl
theorem str_ne {a b : ByteArray} (h : a ≠ b) : (a.toList == b.toList) = false := by
  rw [toList_str, toList_str]
  exact beq_eq_false_iff_ne.2 (fun e => h (str_inj e))
set_option maxRecDepth 100000 in
set_option maxHeartbeats 16000000 in
theorem dwhole_any (old new : ByteArray) (f0 : FateP) (w : World) (hT : Tabs w) :
    Calls Tryz.prog 3 #[.string old, .string new, .agg #[.int .i64 f0.at_, .int .i64 f0.what, .int .i64 f0.keep, .int .i64 f0.torn]] w fun e w' => e = .returned (.bool true) ∧ Off [] w w' := by
  obtain ⟨f, hf⟩ : ∃ f : FateP, f = { f0 with what := 3 } := ⟨_, rfl⟩
  have hfw : f.what = 3 := by rw [hf]
  have HFF := Lib.hid hf
  have HFW := Lib.hid hfw
  have HT := Lib.hid hT
  have HAW := Lib.hid (fun (W : World) (ho : Off [] w W) => dawake_any W (hT.off ho))
  clear hT hf hfw
  go_enter Tryz.func3, Tryz.ntmps3
  go_upto_region 1 with fail
  refine code_gen (fun W => Blk W w.heap.size 23 #[.int .i64 f0.at_, .int .i64 f0.what, .int .i64 f0.keep, .int .i64 f0.torn] ∧ Off [] w W) ⟨Blk.new w _ _, (Off.refl _ _).alloc _⟩ ?_
  rintro W ⟨hbf, hof⟩
  have HBF := Lib.hid hbf
  have HOF := Lib.hid hof
  clear hbf hof
  go_wp2_with fail
  refine (HAW.out W HOF.out).mono ?_
  rintro e w1 ⟨rfl, ho1⟩
  have HB1 := Lib.hid (HBF.out.off ho1 (by simp))
  have HO1 := Lib.hid (HOF.out.trans_nil ho1)
  clear ho1 HAW HBF HOF
  by_cases hA : 65536 < old.size
  · have hA1 : (65536 : Int) < old.size := by omega
    go_wp2_with fail
    go_ret
    exact ⟨rfl, HO1.out⟩
  · have hA1 : ¬ (65536 : Int) < old.size := by omega
    by_cases hB : 65536 < new.size
    · have hB1 : (65536 : Int) < new.size := by omega
      go_wp2_with fail
      go_ret
      exact ⟨rfl, HO1.out⟩
    · have hB1 : ¬ (65536 : Int) < new.size := by omega
      have HNS := Lib.hid (show new.size ≤ 65536 by omega)
      have hrow : Row (w1.alloc (.cells #[.string nmF, .int .i64 1, .string old, .int .i64 0] 30)) (some ⟨w1.heap.size, 0, none⟩) [⟨nmF, 1, old, 0⟩] := row_blk (Blk.new w1 30 _) (by
        intro i n h
        match i, h with
        | 0, h => cases h; exact ⟨rfl, rfl, rfl, rfl⟩
        | i + 1, h => simp at h)
      have hfit : Fits [⟨nmF, 1, old, 0⟩] := fun n hn => by
        simp at hn
        subst hn
        exact ⟨by show nmF.size ≤ _; decide, by show old.size ≤ _; unfold maxLen; omega⟩
      have HNEW := Lib.hid (run_new (some ⟨w1.heap.size, 0, none⟩) [⟨nmF, 1, old, 0⟩] 1 1 _ (w1.alloc (.cells #[.string nmF, .int .i64 1, .string old, .int .i64 0] 30)) (Off.refl _ _) (HT.out.off (HO1.out.alloc _)) hrow rfl (Nat.le_refl _) (okOne okF parF (by omega)) hfit)
      clear hrow hfit
      go_wp2_with fail
      refine HNEW.out.mono ?_
      rintro e w2 ⟨gd, rfl, hr⟩
      have HR := Lib.hid hr
      have hb2 := (HB1.out.alloc (.cells #[.string nmF, .int .i64 1, .string old, .int .i64 0] 30)).off hr.since (by simp)
      have HB2 := Lib.hid hb2
      have hcf := hb2.cell
      have hff := hb2.frozen
      have hlf := hb2.lt
      clear hr HNEW hb2
      go_upto_region 7 with fail
      have hof2 : Off [] w (w2.setCell ⟨w.heap.size, 1, none⟩ (.int .i64 3)) := ((HO1.out.alloc _).trans_nil HR.out.since).setCell (.inl (Nat.le_refl _)) _
      refine code_gen (fun W => Run w W gd (newD [⟨nmF, 1, old, 0⟩]) 0 ∧ Blk W w.heap.size 23 #[.int .i64 f.at_, .int .i64 f.what, .int .i64 f.keep, .int .i64 f.torn]) ⟨?_, ?_⟩ ?_
      · exact HR.out.rebase HT.out hof2 ((Off.refl [w.heap.size] w2).setCell (.inr (by simp)) _) (fun x hx => by simp at hx; subst hx; have := HB1.out.lt; simp; omega) (by have := HO1.out.size; simp; omega)
      · have := HB2.out.set_ 1 (.int .i64 3)
        rw [HFF.out]
        simpa using this
      clear hcf hff hlf hof2
      rintro W3 ⟨hr3, hb3⟩
      have HR3 := Lib.hid hr3
      have hcf := hb3.cell
      have hlf := hb3.lt
      clear hr3 hb3
      go_wp2_with fail
      refine (run_boot (HR3.out.off ((Off.refl [] W3).alloc _)) (some ⟨W3.heap.size, 0, none⟩) [f] 1 1 (FRow.one _ (Blk.new W3 _ _)) rfl (by decide) (fun h => by cases h)).mono ?_
      rintro e w4 ⟨rfl, hr⟩
      have HR4 := Lib.hid (show Run w w4 gd (wS0 old f) 0 from hr)
      clear hr hcf hlf HR3 HR
      have END := Lib.hid (show ∀ (W : World) (D : PDisk) (n : Nat), n ≤ 1000 → LeadsTo D D.names old new → Run w W gd D n → Calls Tryz.prog 15 #[.pointer (some ⟨gd, 0, none⟩), .slice none 0 0, .slice none 0 0] W fun e W' => e = .returned (.tuple #[]) ∧ LeadsTo D D.names old new ∧ Run w W' gd (D.boot []) n from fun W D n hn hl hr =>
        (run_boot hr none [] 0 0 (FRow.nil _ _) rfl (by decide) (fun _ => rfl)).mono fun e W' ⟨he, h⟩ => ⟨he, hl, h⟩)
      go_wp2_with fail
      refine (run_write HR4.out (by omega) nmG new 0 (by decide)).mono ?_
      rintro e w5 ⟨he, hr⟩
      rcases whl0 (old := old) (new := new) HNS.out HFW.out with ⟨h0, h1⟩ | ⟨h1, h2⟩
      · rw [h1] at he hr
        subst he
        have HR5 := Lib.hid hr
        clear hr h1 HR4
        go_wp2_with fail
        refine (run_sync HR5.out (by omega) nmG (by decide)).mono ?_
        rintro e w6 ⟨he, hr⟩
        rcases whl1 (old := old) (new := new) HFW.out h0 with ⟨h10, h1⟩ | ⟨h1, h2⟩
        · rw [h1] at he hr
          subst he
          have HR6 := Lib.hid hr
          clear hr h1 HR5
          go_wp2_with fail
          refine (run_replace HR6.out (by omega) nmG nmF (by decide) (by decide)).mono ?_
          rintro e w7 ⟨he, hr⟩
          rcases whl2 (old := old) (new := new) HFW.out h0 h10 with ⟨h20, h1⟩ | ⟨h1, h2⟩
          · rw [h1] at he hr
            subst he
            have HR7 := Lib.hid hr
            clear hr h1 HR6
            go_wp2_with fail
            refine (run_flush HR7.out (by omega)).mono ?_
            rintro e wf ⟨rfl, hr⟩
            go_wp2_with fail
            refine (END.out _ _ _ (by omega) (whl3 HFW.out) hr).mono ?_
            rintro e w8 ⟨rfl, hl8, hr8⟩
            obtain ⟨nd, gi, gs, gt, hg, hd⟩ := leads_get hl8
            have HD := Lib.hid hd
            clear hd hl8
            go_wp2_with fail
            refine (run_get hr8 (by omega) nmF (by decide)).mono ?_
            rintro e w9 ⟨he, hr9⟩
            rw [hg] at he
            unfold getVal at he
            dsimp only at he
            subst he
            have HR9 := Lib.hid hr9
            clear hr9 hr8 hr hg
            by_cases hx : nd.data = old
            · have hx1 : (nd.data.toList == old.toList) = true := by rw [hx]; simp
              clear hx
              go_wp2_with fail
              go_ret
              exact ⟨rfl, (HR9.out.since.alloc _).alloc _⟩
            · have hx1 : (nd.data.toList == old.toList) = false := str_ne hx
              have hy : nd.data = new := by
                rcases HD.out with h | h
                · exact absurd h hx
                · exact h
              have hy1 : (nd.data.toList == new.toList) = true := by rw [hy]; simp
              clear hx hy
              go_wp2_with fail
              go_ret
              exact ⟨rfl, (HR9.out.since.alloc _).alloc _⟩
          · rw [h1] at he
            subst he
            clear h1 HR6
            go_wp2_with fail
            refine (END.out _ _ _ (by omega) h2 hr).mono ?_
            rintro e w8 ⟨rfl, hl8, hr8⟩
            obtain ⟨nd, gi, gs, gt, hg, hd⟩ := leads_get hl8
            have HD := Lib.hid hd
            clear hd hl8
            go_wp2_with fail
            refine (run_get hr8 (by omega) nmF (by decide)).mono ?_
            rintro e w9 ⟨he, hr9⟩
            rw [hg] at he
            unfold getVal at he
            dsimp only at he
            subst he
            have HR9 := Lib.hid hr9
            clear hr9 hr8 hr hg
            by_cases hx : nd.data = old
            · have hx1 : (nd.data.toList == old.toList) = true := by rw [hx]; simp
              clear hx
              go_wp2_with fail
              go_ret
              exact ⟨rfl, (HR9.out.since.alloc _).alloc _⟩
            · have hx1 : (nd.data.toList == old.toList) = false := str_ne hx
              have hy : nd.data = new := by
                rcases HD.out with h | h
                · exact absurd h hx
                · exact h
              have hy1 : (nd.data.toList == new.toList) = true := by rw [hy]; simp
              clear hx hy
              go_wp2_with fail
              go_ret
              exact ⟨rfl, (HR9.out.since.alloc _).alloc _⟩
        · rw [h1] at he
          subst he
          clear h1 HR5
          go_wp2_with fail
          refine (END.out _ _ _ (by omega) h2 hr).mono ?_
          rintro e w8 ⟨rfl, hl8, hr8⟩
          obtain ⟨nd, gi, gs, gt, hg, hd⟩ := leads_get hl8
          have HD := Lib.hid hd
          clear hd hl8
          go_wp2_with fail
          refine (run_get hr8 (by omega) nmF (by decide)).mono ?_
          rintro e w9 ⟨he, hr9⟩
          rw [hg] at he
          unfold getVal at he
          dsimp only at he
          subst he
          have HR9 := Lib.hid hr9
          clear hr9 hr8 hr hg
          by_cases hx : nd.data = old
          · have hx1 : (nd.data.toList == old.toList) = true := by rw [hx]; simp
            clear hx
            go_wp2_with fail
            go_ret
            exact ⟨rfl, (HR9.out.since.alloc _).alloc _⟩
          · have hx1 : (nd.data.toList == old.toList) = false := str_ne hx
            have hy : nd.data = new := by
              rcases HD.out with h | h
              · exact absurd h hx
              · exact h
            have hy1 : (nd.data.toList == new.toList) = true := by rw [hy]; simp
            clear hx hy
            go_wp2_with fail
            go_ret
            exact ⟨rfl, (HR9.out.since.alloc _).alloc _⟩
      · rw [h1] at he
        subst he
        clear h1 HR4
        go_wp2_with fail
        refine (END.out _ _ _ (by omega) h2 hr).mono ?_
        rintro e w8 ⟨rfl, hl8, hr8⟩
        obtain ⟨nd, gi, gs, gt, hg, hd⟩ := leads_get hl8
        have HD := Lib.hid hd
        clear hd hl8
        go_wp2_with fail
        refine (run_get hr8 (by omega) nmF (by decide)).mono ?_
        rintro e w9 ⟨he, hr9⟩
        rw [hg] at he
        unfold getVal at he
        dsimp only at he
        subst he
        have HR9 := Lib.hid hr9
        clear hr9 hr8 hr hg
        by_cases hx : nd.data = old
        · have hx1 : (nd.data.toList == old.toList) = true := by rw [hx]; simp
          clear hx
          go_wp2_with fail
          go_ret
          exact ⟨rfl, (HR9.out.since.alloc _).alloc _⟩
        · have hx1 : (nd.data.toList == old.toList) = false := str_ne hx
          have hy : nd.data = new := by
            rcases HD.out with h | h
            · exact absurd h hx
            · exact h
          have hy1 : (nd.data.toList == new.toList) = true := by rw [hy]; simp
          clear hx hy
          go_wp2_with fail
          go_ret
          exact ⟨rfl, (HR9.out.since.alloc _).alloc _⟩
end Go.Proofs.YtgcfkljooabjjaaGreatDoor
