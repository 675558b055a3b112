/- Texts of this claim, one behind the other: RWant RNew RRun DRuns DRunsW. Conditions: what each lemma states. -/
import Derived.Test.YtgcfkljooabjjaaGreatDoorFn
import Derived.Test.YtgcfkljooabjjaaGreatDoorFl
import Derived.Test.YtgcfkljooabjjaaGreatDoorFi
namespace Go.Proofs.YtgcfkljooabjjaaGreatDoor
section
open Go.RowKit Go.Op Go.Maps
variable {A : RArg}
theorem r7boot0 (p : Nat) (G : RGeo) (D : PDisk) (w : World) (h : RefM A w p G (norm D)) :
    Calls Tryz.prog 27 #[.pointer (some ⟨p, 0, none⟩), .slice none 0 0, .slice none 0 0] w fun e w' => e = .returned (.tuple #[]) ∧ RefTo ⟨.slice none 0 0, .slice none 0 0⟩ w p G.blocks w' (norm (D.boot [])) :=
  (r7boot_any p G (norm D) [] [] none none 0 0 0 0 (.slice none 0 0) w h).mono fun e w' ⟨he, G', h1, h2, h3⟩ =>
    ⟨he, G', h1, h2.mono (fun x _ hx => by simp at hx; subst hx; exact List.mem_cons_self ..), fun b hb => .inl (h3 b hb)⟩
def WantTo (A : RArg) (w : World) (p : Nat) (L : List Nat) (w' : World) (D E : PDisk) : Prop :=
  (RefTo A w p L w' (norm E) ∧ E.fates = D.fates ∧ E.edits = D.edits) ∨ (RefTo ⟨.slice none 0 0, .slice none 0 0⟩ w p L w' (norm E) ∧ E.fates = [] ∧ E.edits = [])
set_option maxRecDepth 100000 in
set_option maxHeartbeats 16000000 in
theorem r7want_e (p n C : Nat) (G : RGeo) (D : PDisk) (c : CallP) (w : World) (h : RefM A w p G (norm D)) (hk : Ref0 C D n) (hA : ArgsX A w p G.blocks D) (hs1 : c.path.size ≤ 1048576) (hs2 : c.to_.size ≤ 1048576) :
    Calls Tryz.prog 39 #[.pointer (some ⟨p, 0, none⟩), callV c] w fun e w' => AskP w.heap.size (askE D c).1 e w' ∧ WantTo A w p G.blocks w' D (askE D c).2 := by
  obtain ⟨what, path, q, data, mode⟩ := c; have H := Lib.hid h; have HK := Lib.hid hk; have HA := Lib.hid hA; have HFE := Lib.hid (And.intro (edited_fates D) (edited_edits D)); have HS := Lib.hid (And.intro (show path.size ≤ 1048576 from hs1) (show q.size ≤ 1048576 from hs2))
  have HG := Lib.hid (show askE D ⟨what, path, q, data, mode⟩ = if what = 0 then (zeroA (D.edited.write path data mode).1, (D.edited.write path data mode).2) else if what = 1 then (zeroA (D.edited.mkdir path).1, (D.edited.mkdir path).2) else if what = 2 then (zeroA (D.edited.link path q).1, (D.edited.link path q).2) else if what = 3 then (zeroA (D.edited.remove path).1, (D.edited.remove path).2)
    else if what = 4 then (zeroA (D.edited.move path q).1, (D.edited.move path q).2) else if what = 5 then (zeroA (D.edited.replace path q).1, (D.edited.replace path q).2) else if what = 6 then (zeroA (D.edited.sync path).1, (D.edited.sync path).2) else if what = 7 then (zeroA D.edited.flush.1, D.edited.flush.2)
    else if what = 8 then (⟨(D.edited.get path).1.1, (D.edited.get path).1.2.1, (D.edited.get path).1.2.2.1, (D.edited.get path).1.2.2.2.1, (D.edited.get path).1.2.2.2.2, []⟩, (D.edited.get path).2) else if what = 9 then (⟨(D.edited.namesC path).1.2, ⟨⟨#[]⟩, 0, ⟨#[]⟩, 0⟩, 0, 0, 0, (D.edited.namesC path).1.1⟩, (D.edited.namesC path).2) else if what = 10 then (zeroA 0, D.boot []) else (zeroA 0, D) from rfl)
  show Calls Tryz.prog 39 #[.pointer (some ⟨p, 0, none⟩), .agg #[.int .i64 what, .string path, .string q, .string data, .int .i64 mode]] w fun e w' => AskP w.heap.size (askE D ⟨what, path, q, data, mode⟩).1 e w' ∧ WantTo A w p G.blocks w' D (askE D ⟨what, path, q, data, mode⟩).2
  clear h hk hA hs1 hs2
  go_enter Tryz.func39, Tryz.ntmps39
  go_upto_region 5 with fail
  refine code_gen (fun W => Blk W w.heap.size 77 #[.int .i64 what, .string path, .string q, .string data, .int .i64 mode] ∧ Blk W (w.heap.size + 1) 30 #[.string ⟨#[]⟩, .int .i64 0, .string ⟨#[]⟩, .int .i64 0] ∧ Blk W (w.heap.size + 2) 39 #[.int .i64 0, .int .i64 0, .int .i64 0] ∧ Blk W (w.heap.size + 3) 30 #[.string ⟨#[]⟩, .int .i64 0, .string ⟨#[]⟩, .int .i64 0] ∧ Blk W (w.heap.size + 4) 39 #[.int .i64 0, .int .i64 0, .int .i64 0] ∧ Off [] w W ∧ w.heap.size + 4 < W.heap.size)
    ⟨((((Blk.new w _ _).alloc _).alloc _).alloc _).alloc _, (((Blk.new1 w _ _ _).alloc _).alloc _).alloc _, ((Blk.new2 w _ _ _ _).alloc _).alloc _, (Blk.new3' w _ _ _ _ _).alloc _, Blk.new4' w _ _ _ _ _ _, (((((Off.refl _ _).alloc _).alloc _).alloc _).alloc _).alloc _, by simp⟩ ?_
  rintro W ⟨hb0, hb1, hb2, hb3, hb4, hof, hsz⟩; have HB1 := Lib.hid hb1; have HB2 := Lib.hid hb2; have HB3 := Lib.hid hb3; have HB4 := Lib.hid hb4; have HOF := Lib.hid hof; have HSZ := Lib.hid hsz; have hc0 := hb0.cell; have HDS := Lib.hid (H.out.off_nil hof); have HNO := Lib.hid (show ∀ b, w.heap.size ≤ b → b < W.heap.size → b ∉ p :: G.blocks from fun b hb _ hm => by
    rcases List.mem_cons.1 hm with rfl | hm
    · have := H.out.blk.lt; omega
    have := H.out.lt hm; omega)
  have HKK := Lib.hid (show ∀ b ∈ [w.heap.size + 1, w.heap.size + 2, w.heap.size + 3, w.heap.size + 4], w.heap.size ≤ b ∧ b < W.heap.size from fun b hb => by
    have := HSZ.out; simp at hb; omega)
  clear hb0 hb1 hb2 hb3 hb4 hof hsz
  by_cases hk0 : what = 0
  · subst hk0
    have HE := Lib.hid (show askE D ⟨0, path, q, data, mode⟩ = (zeroA (D.edited.write path data mode).1, (D.edited.write path data mode).2) from rfl); have hop := Lib.hid (r7write_any p n C G D path data mode W HDS.out HK.out (HA.out.off HOF.out) HS.out.1); clear HG; obtain ⟨er, her⟩ : ∃ er, (D.edited.write path data mode).1 = er := ⟨_, rfl⟩
    rw [her] at hop HE; clear her
    go_wp2_with fail
    refine hop.out.mono ?_
    rintro e w1 ⟨rfl, hT⟩; have HT := Lib.hid hT; clear hT hop; obtain ⟨G1, h1, ho1, hp1⟩ := HT.out; have hb1 := HB1.out.off ho1 (HNO.out _ (by omega) (by have := HSZ.out; omega)); have hb2 := HB2.out.off ho1 (HNO.out _ (by omega) (by have := HSZ.out; omega)); have hb3 := HB3.out.off ho1 (HNO.out _ (by omega) (by have := HSZ.out; omega))
    have hb4 := HB4.out.off ho1 (HNO.out _ (by omega) (by have := HSZ.out; omega)); clear h1 ho1 hp1
    go_upto_region 28 with fail
    refine code_gen (fun W2 => Blk W2 (w.heap.size + 1) 30 #[.string ⟨#[]⟩, .int .i64 0, .string ⟨#[]⟩, .int .i64 0] ∧ Blk W2 (w.heap.size + 2) 39 #[.int .i64 0, .int .i64 0, .int .i64 0] ∧ Blk W2 (w.heap.size + 3) 30 #[.string ⟨#[]⟩, .int .i64 0, .string ⟨#[]⟩, .int .i64 0] ∧ Blk W2 (w.heap.size + 4) 39 #[.int .i64 0, .int .i64 0, .int .i64 0] ∧ Off [w.heap.size + 3, w.heap.size + 4] w1 W2) ⟨hb1, hb2, hb3, hb4, Off.refl _ _⟩ ?_
    clear hb1 hb2 hb3 hb4; rintro W2 ⟨hb1, hb2, hb3, hb4, ho2⟩; have hc1 := hb1.cell; have hf1 := hb1.frozen; have hl1 := hb1.lt; have HC1 := Lib.hid hb1; have hc2 := hb2.cell; have hf2 := hb2.frozen; have hl2 := hb2.lt; have HC2 := Lib.hid hb2; have hc3 := hb3.cell; have hc4 := hb4.cell; have HO2 := Lib.hid ho2; clear hb1 hb2 hb3 hb4 ho2
    go_region
    obtain ⟨k1, k2, k3⟩ := put7 (a := .string ⟨#[]⟩) (b := .int .i64 0) (c := .string ⟨#[]⟩) (d := .int .i64 0) (x := .int .i64 0) (y := .int .i64 0) (z := .int .i64 0) HC1.out HC2.out; have he1 := k1.drew.cell; have he2 := k2.drew.cell; have K3 := Lib.hid k3.drew; clear k1 k2 k3 hc1 hf1 hl1 hc2 hf2 hl2 hc3 hc4
    go_wp2_with fail
    refine bodyPost_ret (v := .tuple #[.int .i64 er, .agg #[.string ⟨#[]⟩, .int .i64 0, .string ⟨#[]⟩, .int .i64 0], .agg #[.int .i64 0, .int .i64 0, .int .i64 0], .slice none 0 0]) ?_ rfl ?_
    · have hres : Tryz.f39.results = #[.tmp 4, .cell 5 30, .cell 6 39, .tmp 7] := rfl
      simp only [results, hres]
      go_simp
    rw [HE.out]; exact ⟨⟨_, rfl, ⟨rfl, .inl ⟨rfl, rfl⟩⟩⟩, .inl ⟨RefTo.own H.out HOF.out HT.out ((HO2.out.mono (fun _ _ h => by simp at h ⊢; omega)).trans (K3.out.mono (fun _ _ h => by simp at h ⊢; omega)) (fun _ _ h => h)) HKK.out, (write_fates _ _ _ _).trans HFE.out.1, (write_edits _ _ _ _).trans HFE.out.2⟩⟩
  by_cases hk1 : what = 1
  · subst hk1
    have HE := Lib.hid (show askE D ⟨1, path, q, data, mode⟩ = (zeroA (D.edited.mkdir path).1, (D.edited.mkdir path).2) from rfl); have hop := Lib.hid (r7mkdir_any p n C G D path W HDS.out HK.out (HA.out.off HOF.out) HS.out.1); clear HG; obtain ⟨er, her⟩ : ∃ er, (D.edited.mkdir path).1 = er := ⟨_, rfl⟩
    rw [her] at hop HE; clear her
    go_wp2_with fail
    refine hop.out.mono ?_
    rintro e w1 ⟨rfl, hT⟩; have HT := Lib.hid hT; clear hT hop; obtain ⟨G1, h1, ho1, hp1⟩ := HT.out; have hb1 := HB1.out.off ho1 (HNO.out _ (by omega) (by have := HSZ.out; omega)); have hb2 := HB2.out.off ho1 (HNO.out _ (by omega) (by have := HSZ.out; omega)); have hb3 := HB3.out.off ho1 (HNO.out _ (by omega) (by have := HSZ.out; omega))
    have hb4 := HB4.out.off ho1 (HNO.out _ (by omega) (by have := HSZ.out; omega)); clear h1 ho1 hp1
    go_upto_region 28 with fail
    refine code_gen (fun W2 => Blk W2 (w.heap.size + 1) 30 #[.string ⟨#[]⟩, .int .i64 0, .string ⟨#[]⟩, .int .i64 0] ∧ Blk W2 (w.heap.size + 2) 39 #[.int .i64 0, .int .i64 0, .int .i64 0] ∧ Blk W2 (w.heap.size + 3) 30 #[.string ⟨#[]⟩, .int .i64 0, .string ⟨#[]⟩, .int .i64 0] ∧ Blk W2 (w.heap.size + 4) 39 #[.int .i64 0, .int .i64 0, .int .i64 0] ∧ Off [w.heap.size + 3, w.heap.size + 4] w1 W2) ⟨hb1, hb2, hb3, hb4, Off.refl _ _⟩ ?_
    clear hb1 hb2 hb3 hb4; rintro W2 ⟨hb1, hb2, hb3, hb4, ho2⟩; have hc1 := hb1.cell; have hf1 := hb1.frozen; have hl1 := hb1.lt; have HC1 := Lib.hid hb1; have hc2 := hb2.cell; have hf2 := hb2.frozen; have hl2 := hb2.lt; have HC2 := Lib.hid hb2; have hc3 := hb3.cell; have hc4 := hb4.cell; have HO2 := Lib.hid ho2; clear hb1 hb2 hb3 hb4 ho2
    go_region
    obtain ⟨k1, k2, k3⟩ := put7 (a := .string ⟨#[]⟩) (b := .int .i64 0) (c := .string ⟨#[]⟩) (d := .int .i64 0) (x := .int .i64 0) (y := .int .i64 0) (z := .int .i64 0) HC1.out HC2.out; have he1 := k1.drew.cell; have he2 := k2.drew.cell; have K3 := Lib.hid k3.drew; clear k1 k2 k3 hc1 hf1 hl1 hc2 hf2 hl2 hc3 hc4
    go_wp2_with fail
    refine bodyPost_ret (v := .tuple #[.int .i64 er, .agg #[.string ⟨#[]⟩, .int .i64 0, .string ⟨#[]⟩, .int .i64 0], .agg #[.int .i64 0, .int .i64 0, .int .i64 0], .slice none 0 0]) ?_ rfl ?_
    · have hres : Tryz.f39.results = #[.tmp 4, .cell 5 30, .cell 6 39, .tmp 7] := rfl
      simp only [results, hres]
      go_simp
    rw [HE.out]; exact ⟨⟨_, rfl, ⟨rfl, .inl ⟨rfl, rfl⟩⟩⟩, .inl ⟨RefTo.own H.out HOF.out HT.out ((HO2.out.mono (fun _ _ h => by simp at h ⊢; omega)).trans (K3.out.mono (fun _ _ h => by simp at h ⊢; omega)) (fun _ _ h => h)) HKK.out, (mkdir_fates _ _).trans HFE.out.1, (mkdir_edits _ _).trans HFE.out.2⟩⟩
  by_cases hk2 : what = 2
  · subst hk2
    have HE := Lib.hid (show askE D ⟨2, path, q, data, mode⟩ = (zeroA (D.edited.link path q).1, (D.edited.link path q).2) from rfl); have hop := Lib.hid (r7link_any p n C G D path q W HDS.out HK.out (HA.out.off HOF.out) HS.out.1 HS.out.2); clear HG; obtain ⟨er, her⟩ : ∃ er, (D.edited.link path q).1 = er := ⟨_, rfl⟩
    rw [her] at hop HE; clear her
    go_wp2_with fail
    refine hop.out.mono ?_
    rintro e w1 ⟨rfl, hT⟩; have HT := Lib.hid hT; clear hT hop; obtain ⟨G1, h1, ho1, hp1⟩ := HT.out; have hb1 := HB1.out.off ho1 (HNO.out _ (by omega) (by have := HSZ.out; omega)); have hb2 := HB2.out.off ho1 (HNO.out _ (by omega) (by have := HSZ.out; omega)); have hb3 := HB3.out.off ho1 (HNO.out _ (by omega) (by have := HSZ.out; omega))
    have hb4 := HB4.out.off ho1 (HNO.out _ (by omega) (by have := HSZ.out; omega)); clear h1 ho1 hp1
    go_upto_region 28 with fail
    refine code_gen (fun W2 => Blk W2 (w.heap.size + 1) 30 #[.string ⟨#[]⟩, .int .i64 0, .string ⟨#[]⟩, .int .i64 0] ∧ Blk W2 (w.heap.size + 2) 39 #[.int .i64 0, .int .i64 0, .int .i64 0] ∧ Blk W2 (w.heap.size + 3) 30 #[.string ⟨#[]⟩, .int .i64 0, .string ⟨#[]⟩, .int .i64 0] ∧ Blk W2 (w.heap.size + 4) 39 #[.int .i64 0, .int .i64 0, .int .i64 0] ∧ Off [w.heap.size + 3, w.heap.size + 4] w1 W2) ⟨hb1, hb2, hb3, hb4, Off.refl _ _⟩ ?_
    clear hb1 hb2 hb3 hb4; rintro W2 ⟨hb1, hb2, hb3, hb4, ho2⟩; have hc1 := hb1.cell; have hf1 := hb1.frozen; have hl1 := hb1.lt; have HC1 := Lib.hid hb1; have hc2 := hb2.cell; have hf2 := hb2.frozen; have hl2 := hb2.lt; have HC2 := Lib.hid hb2; have hc3 := hb3.cell; have hc4 := hb4.cell; have HO2 := Lib.hid ho2; clear hb1 hb2 hb3 hb4 ho2
    go_region
    obtain ⟨k1, k2, k3⟩ := put7 (a := .string ⟨#[]⟩) (b := .int .i64 0) (c := .string ⟨#[]⟩) (d := .int .i64 0) (x := .int .i64 0) (y := .int .i64 0) (z := .int .i64 0) HC1.out HC2.out; have he1 := k1.drew.cell; have he2 := k2.drew.cell; have K3 := Lib.hid k3.drew; clear k1 k2 k3 hc1 hf1 hl1 hc2 hf2 hl2 hc3 hc4
    go_wp2_with fail
    refine bodyPost_ret (v := .tuple #[.int .i64 er, .agg #[.string ⟨#[]⟩, .int .i64 0, .string ⟨#[]⟩, .int .i64 0], .agg #[.int .i64 0, .int .i64 0, .int .i64 0], .slice none 0 0]) ?_ rfl ?_
    · have hres : Tryz.f39.results = #[.tmp 4, .cell 5 30, .cell 6 39, .tmp 7] := rfl
      simp only [results, hres]
      go_simp
    rw [HE.out]; exact ⟨⟨_, rfl, ⟨rfl, .inl ⟨rfl, rfl⟩⟩⟩, .inl ⟨RefTo.own H.out HOF.out HT.out ((HO2.out.mono (fun _ _ h => by simp at h ⊢; omega)).trans (K3.out.mono (fun _ _ h => by simp at h ⊢; omega)) (fun _ _ h => h)) HKK.out, (link_fates _ _ _).trans HFE.out.1, (link_edits _ _ _).trans HFE.out.2⟩⟩
  by_cases hk3 : what = 3
  · subst hk3
    have HE := Lib.hid (show askE D ⟨3, path, q, data, mode⟩ = (zeroA (D.edited.remove path).1, (D.edited.remove path).2) from rfl); have hop := Lib.hid (r7remove_any p n C G D path W HDS.out HK.out (HA.out.off HOF.out) HS.out.1); clear HG; obtain ⟨er, her⟩ : ∃ er, (D.edited.remove path).1 = er := ⟨_, rfl⟩
    rw [her] at hop HE; clear her
    go_wp2_with fail
    refine hop.out.mono ?_
    rintro e w1 ⟨rfl, hT⟩; have HT := Lib.hid hT; clear hT hop; obtain ⟨G1, h1, ho1, hp1⟩ := HT.out; have hb1 := HB1.out.off ho1 (HNO.out _ (by omega) (by have := HSZ.out; omega)); have hb2 := HB2.out.off ho1 (HNO.out _ (by omega) (by have := HSZ.out; omega)); have hb3 := HB3.out.off ho1 (HNO.out _ (by omega) (by have := HSZ.out; omega))
    have hb4 := HB4.out.off ho1 (HNO.out _ (by omega) (by have := HSZ.out; omega)); clear h1 ho1 hp1
    go_upto_region 28 with fail
    refine code_gen (fun W2 => Blk W2 (w.heap.size + 1) 30 #[.string ⟨#[]⟩, .int .i64 0, .string ⟨#[]⟩, .int .i64 0] ∧ Blk W2 (w.heap.size + 2) 39 #[.int .i64 0, .int .i64 0, .int .i64 0] ∧ Blk W2 (w.heap.size + 3) 30 #[.string ⟨#[]⟩, .int .i64 0, .string ⟨#[]⟩, .int .i64 0] ∧ Blk W2 (w.heap.size + 4) 39 #[.int .i64 0, .int .i64 0, .int .i64 0] ∧ Off [w.heap.size + 3, w.heap.size + 4] w1 W2) ⟨hb1, hb2, hb3, hb4, Off.refl _ _⟩ ?_
    clear hb1 hb2 hb3 hb4; rintro W2 ⟨hb1, hb2, hb3, hb4, ho2⟩; have hc1 := hb1.cell; have hf1 := hb1.frozen; have hl1 := hb1.lt; have HC1 := Lib.hid hb1; have hc2 := hb2.cell; have hf2 := hb2.frozen; have hl2 := hb2.lt; have HC2 := Lib.hid hb2; have hc3 := hb3.cell; have hc4 := hb4.cell; have HO2 := Lib.hid ho2; clear hb1 hb2 hb3 hb4 ho2
    go_region
    obtain ⟨k1, k2, k3⟩ := put7 (a := .string ⟨#[]⟩) (b := .int .i64 0) (c := .string ⟨#[]⟩) (d := .int .i64 0) (x := .int .i64 0) (y := .int .i64 0) (z := .int .i64 0) HC1.out HC2.out; have he1 := k1.drew.cell; have he2 := k2.drew.cell; have K3 := Lib.hid k3.drew; clear k1 k2 k3 hc1 hf1 hl1 hc2 hf2 hl2 hc3 hc4
    go_wp2_with fail
    refine bodyPost_ret (v := .tuple #[.int .i64 er, .agg #[.string ⟨#[]⟩, .int .i64 0, .string ⟨#[]⟩, .int .i64 0], .agg #[.int .i64 0, .int .i64 0, .int .i64 0], .slice none 0 0]) ?_ rfl ?_
    · have hres : Tryz.f39.results = #[.tmp 4, .cell 5 30, .cell 6 39, .tmp 7] := rfl
      simp only [results, hres]
      go_simp
    rw [HE.out]; exact ⟨⟨_, rfl, ⟨rfl, .inl ⟨rfl, rfl⟩⟩⟩, .inl ⟨RefTo.own H.out HOF.out HT.out ((HO2.out.mono (fun _ _ h => by simp at h ⊢; omega)).trans (K3.out.mono (fun _ _ h => by simp at h ⊢; omega)) (fun _ _ h => h)) HKK.out, (remove_fates _ _).trans HFE.out.1, (remove_edits _ _).trans HFE.out.2⟩⟩
  by_cases hk4 : what = 4
  · subst hk4
    have HE := Lib.hid (show askE D ⟨4, path, q, data, mode⟩ = (zeroA (D.edited.move path q).1, (D.edited.move path q).2) from rfl); have hop := Lib.hid (r7move_any p n C G D path q W HDS.out HK.out (HA.out.off HOF.out) HS.out.1 HS.out.2); clear HG; obtain ⟨er, her⟩ : ∃ er, (D.edited.move path q).1 = er := ⟨_, rfl⟩
    rw [her] at hop HE; clear her
    go_wp2_with fail
    refine hop.out.mono ?_
    rintro e w1 ⟨rfl, hT⟩; have HT := Lib.hid hT; clear hT hop; obtain ⟨G1, h1, ho1, hp1⟩ := HT.out; have hb1 := HB1.out.off ho1 (HNO.out _ (by omega) (by have := HSZ.out; omega)); have hb2 := HB2.out.off ho1 (HNO.out _ (by omega) (by have := HSZ.out; omega)); have hb3 := HB3.out.off ho1 (HNO.out _ (by omega) (by have := HSZ.out; omega))
    have hb4 := HB4.out.off ho1 (HNO.out _ (by omega) (by have := HSZ.out; omega)); clear h1 ho1 hp1
    go_upto_region 28 with fail
    refine code_gen (fun W2 => Blk W2 (w.heap.size + 1) 30 #[.string ⟨#[]⟩, .int .i64 0, .string ⟨#[]⟩, .int .i64 0] ∧ Blk W2 (w.heap.size + 2) 39 #[.int .i64 0, .int .i64 0, .int .i64 0] ∧ Blk W2 (w.heap.size + 3) 30 #[.string ⟨#[]⟩, .int .i64 0, .string ⟨#[]⟩, .int .i64 0] ∧ Blk W2 (w.heap.size + 4) 39 #[.int .i64 0, .int .i64 0, .int .i64 0] ∧ Off [w.heap.size + 3, w.heap.size + 4] w1 W2) ⟨hb1, hb2, hb3, hb4, Off.refl _ _⟩ ?_
    clear hb1 hb2 hb3 hb4; rintro W2 ⟨hb1, hb2, hb3, hb4, ho2⟩; have hc1 := hb1.cell; have hf1 := hb1.frozen; have hl1 := hb1.lt; have HC1 := Lib.hid hb1; have hc2 := hb2.cell; have hf2 := hb2.frozen; have hl2 := hb2.lt; have HC2 := Lib.hid hb2; have hc3 := hb3.cell; have hc4 := hb4.cell; have HO2 := Lib.hid ho2; clear hb1 hb2 hb3 hb4 ho2
    go_region
    obtain ⟨k1, k2, k3⟩ := put7 (a := .string ⟨#[]⟩) (b := .int .i64 0) (c := .string ⟨#[]⟩) (d := .int .i64 0) (x := .int .i64 0) (y := .int .i64 0) (z := .int .i64 0) HC1.out HC2.out; have he1 := k1.drew.cell; have he2 := k2.drew.cell; have K3 := Lib.hid k3.drew; clear k1 k2 k3 hc1 hf1 hl1 hc2 hf2 hl2 hc3 hc4
    go_wp2_with fail
    refine bodyPost_ret (v := .tuple #[.int .i64 er, .agg #[.string ⟨#[]⟩, .int .i64 0, .string ⟨#[]⟩, .int .i64 0], .agg #[.int .i64 0, .int .i64 0, .int .i64 0], .slice none 0 0]) ?_ rfl ?_
    · have hres : Tryz.f39.results = #[.tmp 4, .cell 5 30, .cell 6 39, .tmp 7] := rfl
      simp only [results, hres]
      go_simp
    rw [HE.out]; exact ⟨⟨_, rfl, ⟨rfl, .inl ⟨rfl, rfl⟩⟩⟩, .inl ⟨RefTo.own H.out HOF.out HT.out ((HO2.out.mono (fun _ _ h => by simp at h ⊢; omega)).trans (K3.out.mono (fun _ _ h => by simp at h ⊢; omega)) (fun _ _ h => h)) HKK.out, (move_fates _ _ _).trans HFE.out.1, (move_edits _ _ _).trans HFE.out.2⟩⟩
  by_cases hk5 : what = 5
  · subst hk5
    have HE := Lib.hid (show askE D ⟨5, path, q, data, mode⟩ = (zeroA (D.edited.replace path q).1, (D.edited.replace path q).2) from rfl); have hop := Lib.hid (r7replace_any p n C G D path q W HDS.out HK.out (HA.out.off HOF.out) HS.out.1 HS.out.2); clear HG; obtain ⟨er, her⟩ : ∃ er, (D.edited.replace path q).1 = er := ⟨_, rfl⟩
    rw [her] at hop HE; clear her
    go_wp2_with fail
    refine hop.out.mono ?_
    rintro e w1 ⟨rfl, hT⟩; have HT := Lib.hid hT; clear hT hop; obtain ⟨G1, h1, ho1, hp1⟩ := HT.out; have hb1 := HB1.out.off ho1 (HNO.out _ (by omega) (by have := HSZ.out; omega)); have hb2 := HB2.out.off ho1 (HNO.out _ (by omega) (by have := HSZ.out; omega)); have hb3 := HB3.out.off ho1 (HNO.out _ (by omega) (by have := HSZ.out; omega))
    have hb4 := HB4.out.off ho1 (HNO.out _ (by omega) (by have := HSZ.out; omega)); clear h1 ho1 hp1
    go_upto_region 28 with fail
    refine code_gen (fun W2 => Blk W2 (w.heap.size + 1) 30 #[.string ⟨#[]⟩, .int .i64 0, .string ⟨#[]⟩, .int .i64 0] ∧ Blk W2 (w.heap.size + 2) 39 #[.int .i64 0, .int .i64 0, .int .i64 0] ∧ Blk W2 (w.heap.size + 3) 30 #[.string ⟨#[]⟩, .int .i64 0, .string ⟨#[]⟩, .int .i64 0] ∧ Blk W2 (w.heap.size + 4) 39 #[.int .i64 0, .int .i64 0, .int .i64 0] ∧ Off [w.heap.size + 3, w.heap.size + 4] w1 W2) ⟨hb1, hb2, hb3, hb4, Off.refl _ _⟩ ?_
    clear hb1 hb2 hb3 hb4; rintro W2 ⟨hb1, hb2, hb3, hb4, ho2⟩; have hc1 := hb1.cell; have hf1 := hb1.frozen; have hl1 := hb1.lt; have HC1 := Lib.hid hb1; have hc2 := hb2.cell; have hf2 := hb2.frozen; have hl2 := hb2.lt; have HC2 := Lib.hid hb2; have hc3 := hb3.cell; have hc4 := hb4.cell; have HO2 := Lib.hid ho2; clear hb1 hb2 hb3 hb4 ho2
    go_region
    obtain ⟨k1, k2, k3⟩ := put7 (a := .string ⟨#[]⟩) (b := .int .i64 0) (c := .string ⟨#[]⟩) (d := .int .i64 0) (x := .int .i64 0) (y := .int .i64 0) (z := .int .i64 0) HC1.out HC2.out; have he1 := k1.drew.cell; have he2 := k2.drew.cell; have K3 := Lib.hid k3.drew; clear k1 k2 k3 hc1 hf1 hl1 hc2 hf2 hl2 hc3 hc4
    go_wp2_with fail
    refine bodyPost_ret (v := .tuple #[.int .i64 er, .agg #[.string ⟨#[]⟩, .int .i64 0, .string ⟨#[]⟩, .int .i64 0], .agg #[.int .i64 0, .int .i64 0, .int .i64 0], .slice none 0 0]) ?_ rfl ?_
    · have hres : Tryz.f39.results = #[.tmp 4, .cell 5 30, .cell 6 39, .tmp 7] := rfl
      simp only [results, hres]
      go_simp
    rw [HE.out]; exact ⟨⟨_, rfl, ⟨rfl, .inl ⟨rfl, rfl⟩⟩⟩, .inl ⟨RefTo.own H.out HOF.out HT.out ((HO2.out.mono (fun _ _ h => by simp at h ⊢; omega)).trans (K3.out.mono (fun _ _ h => by simp at h ⊢; omega)) (fun _ _ h => h)) HKK.out, (replace_fates _ _ _).trans HFE.out.1, (replace_edits _ _ _).trans HFE.out.2⟩⟩
  by_cases hk6 : what = 6
  · subst hk6
    have HE := Lib.hid (show askE D ⟨6, path, q, data, mode⟩ = (zeroA (D.edited.sync path).1, (D.edited.sync path).2) from rfl); have hop := Lib.hid (r7sync_any p n C G D path W HDS.out HK.out (HA.out.off HOF.out) HS.out.1); clear HG; obtain ⟨er, her⟩ : ∃ er, (D.edited.sync path).1 = er := ⟨_, rfl⟩
    rw [her] at hop HE; clear her
    go_wp2_with fail
    refine hop.out.mono ?_
    rintro e w1 ⟨rfl, hT⟩; have HT := Lib.hid hT; clear hT hop; obtain ⟨G1, h1, ho1, hp1⟩ := HT.out; have hb1 := HB1.out.off ho1 (HNO.out _ (by omega) (by have := HSZ.out; omega)); have hb2 := HB2.out.off ho1 (HNO.out _ (by omega) (by have := HSZ.out; omega)); have hb3 := HB3.out.off ho1 (HNO.out _ (by omega) (by have := HSZ.out; omega))
    have hb4 := HB4.out.off ho1 (HNO.out _ (by omega) (by have := HSZ.out; omega)); clear h1 ho1 hp1
    go_upto_region 28 with fail
    refine code_gen (fun W2 => Blk W2 (w.heap.size + 1) 30 #[.string ⟨#[]⟩, .int .i64 0, .string ⟨#[]⟩, .int .i64 0] ∧ Blk W2 (w.heap.size + 2) 39 #[.int .i64 0, .int .i64 0, .int .i64 0] ∧ Blk W2 (w.heap.size + 3) 30 #[.string ⟨#[]⟩, .int .i64 0, .string ⟨#[]⟩, .int .i64 0] ∧ Blk W2 (w.heap.size + 4) 39 #[.int .i64 0, .int .i64 0, .int .i64 0] ∧ Off [w.heap.size + 3, w.heap.size + 4] w1 W2) ⟨hb1, hb2, hb3, hb4, Off.refl _ _⟩ ?_
    clear hb1 hb2 hb3 hb4; rintro W2 ⟨hb1, hb2, hb3, hb4, ho2⟩; have hc1 := hb1.cell; have hf1 := hb1.frozen; have hl1 := hb1.lt; have HC1 := Lib.hid hb1; have hc2 := hb2.cell; have hf2 := hb2.frozen; have hl2 := hb2.lt; have HC2 := Lib.hid hb2; have hc3 := hb3.cell; have hc4 := hb4.cell; have HO2 := Lib.hid ho2; clear hb1 hb2 hb3 hb4 ho2
    go_region
    obtain ⟨k1, k2, k3⟩ := put7 (a := .string ⟨#[]⟩) (b := .int .i64 0) (c := .string ⟨#[]⟩) (d := .int .i64 0) (x := .int .i64 0) (y := .int .i64 0) (z := .int .i64 0) HC1.out HC2.out; have he1 := k1.drew.cell; have he2 := k2.drew.cell; have K3 := Lib.hid k3.drew; clear k1 k2 k3 hc1 hf1 hl1 hc2 hf2 hl2 hc3 hc4
    go_wp2_with fail
    refine bodyPost_ret (v := .tuple #[.int .i64 er, .agg #[.string ⟨#[]⟩, .int .i64 0, .string ⟨#[]⟩, .int .i64 0], .agg #[.int .i64 0, .int .i64 0, .int .i64 0], .slice none 0 0]) ?_ rfl ?_
    · have hres : Tryz.f39.results = #[.tmp 4, .cell 5 30, .cell 6 39, .tmp 7] := rfl
      simp only [results, hres]
      go_simp
    rw [HE.out]; exact ⟨⟨_, rfl, ⟨rfl, .inl ⟨rfl, rfl⟩⟩⟩, .inl ⟨RefTo.own H.out HOF.out HT.out ((HO2.out.mono (fun _ _ h => by simp at h ⊢; omega)).trans (K3.out.mono (fun _ _ h => by simp at h ⊢; omega)) (fun _ _ h => h)) HKK.out, (sync_fates _ _).trans HFE.out.1, (sync_edits _ _).trans HFE.out.2⟩⟩
  by_cases hk7 : what = 7
  · subst hk7
    have HE := Lib.hid (show askE D ⟨7, path, q, data, mode⟩ = (zeroA D.edited.flush.1, D.edited.flush.2) from rfl); have hop := Lib.hid (r7flush_any p n C G D W HDS.out HK.out (HA.out.off HOF.out)); clear HG; obtain ⟨er, her⟩ : ∃ er, D.edited.flush.1 = er := ⟨_, rfl⟩
    rw [her] at hop HE; clear her
    go_wp2_with fail
    refine hop.out.mono ?_
    rintro e w1 ⟨rfl, hT⟩; have HT := Lib.hid hT; clear hT hop; obtain ⟨G1, h1, ho1, hp1⟩ := HT.out; have hb1 := HB1.out.off ho1 (HNO.out _ (by omega) (by have := HSZ.out; omega)); have hb2 := HB2.out.off ho1 (HNO.out _ (by omega) (by have := HSZ.out; omega)); have hb3 := HB3.out.off ho1 (HNO.out _ (by omega) (by have := HSZ.out; omega))
    have hb4 := HB4.out.off ho1 (HNO.out _ (by omega) (by have := HSZ.out; omega)); clear h1 ho1 hp1
    go_upto_region 28 with fail
    refine code_gen (fun W2 => Blk W2 (w.heap.size + 1) 30 #[.string ⟨#[]⟩, .int .i64 0, .string ⟨#[]⟩, .int .i64 0] ∧ Blk W2 (w.heap.size + 2) 39 #[.int .i64 0, .int .i64 0, .int .i64 0] ∧ Blk W2 (w.heap.size + 3) 30 #[.string ⟨#[]⟩, .int .i64 0, .string ⟨#[]⟩, .int .i64 0] ∧ Blk W2 (w.heap.size + 4) 39 #[.int .i64 0, .int .i64 0, .int .i64 0] ∧ Off [w.heap.size + 3, w.heap.size + 4] w1 W2) ⟨hb1, hb2, hb3, hb4, Off.refl _ _⟩ ?_
    clear hb1 hb2 hb3 hb4; rintro W2 ⟨hb1, hb2, hb3, hb4, ho2⟩; have hc1 := hb1.cell; have hf1 := hb1.frozen; have hl1 := hb1.lt; have HC1 := Lib.hid hb1; have hc2 := hb2.cell; have hf2 := hb2.frozen; have hl2 := hb2.lt; have HC2 := Lib.hid hb2; have hc3 := hb3.cell; have hc4 := hb4.cell; have HO2 := Lib.hid ho2; clear hb1 hb2 hb3 hb4 ho2
    go_region
    obtain ⟨k1, k2, k3⟩ := put7 (a := .string ⟨#[]⟩) (b := .int .i64 0) (c := .string ⟨#[]⟩) (d := .int .i64 0) (x := .int .i64 0) (y := .int .i64 0) (z := .int .i64 0) HC1.out HC2.out; have he1 := k1.drew.cell; have he2 := k2.drew.cell; have K3 := Lib.hid k3.drew; clear k1 k2 k3 hc1 hf1 hl1 hc2 hf2 hl2 hc3 hc4
    go_wp2_with fail
    refine bodyPost_ret (v := .tuple #[.int .i64 er, .agg #[.string ⟨#[]⟩, .int .i64 0, .string ⟨#[]⟩, .int .i64 0], .agg #[.int .i64 0, .int .i64 0, .int .i64 0], .slice none 0 0]) ?_ rfl ?_
    · have hres : Tryz.f39.results = #[.tmp 4, .cell 5 30, .cell 6 39, .tmp 7] := rfl
      simp only [results, hres]
      go_simp
    rw [HE.out]; exact ⟨⟨_, rfl, ⟨rfl, .inl ⟨rfl, rfl⟩⟩⟩, .inl ⟨RefTo.own H.out HOF.out HT.out ((HO2.out.mono (fun _ _ h => by simp at h ⊢; omega)).trans (K3.out.mono (fun _ _ h => by simp at h ⊢; omega)) (fun _ _ h => h)) HKK.out, (flush_fates _).trans HFE.out.1, (flush_edits _).trans HFE.out.2⟩⟩
  by_cases hk8 : what = 8
  · subst hk8
    have HE := Lib.hid (show askE D ⟨8, path, q, data, mode⟩ = (⟨(D.edited.get path).1.1, (D.edited.get path).1.2.1, (D.edited.get path).1.2.2.1, (D.edited.get path).1.2.2.2.1, (D.edited.get path).1.2.2.2.2, []⟩, (D.edited.get path).2) from rfl); have hop := Lib.hid (r7get_any p n C G D path W HDS.out HK.out (HA.out.off HOF.out) HS.out.1); clear HG; unfold getVal at hop
    obtain ⟨⟨ge, nd, gi, gs, gt⟩, hgv⟩ : ∃ g, (D.edited.get path).1 = g := ⟨_, rfl⟩
    rw [hgv] at hop HE; clear hgv
    go_wp2_with fail
    refine hop.out.mono ?_
    rintro e w1 ⟨rfl, hT⟩; have HT := Lib.hid hT; clear hT hop; obtain ⟨G1, h1, ho1, hp1⟩ := HT.out; have hb1 := HB1.out.off ho1 (HNO.out _ (by omega) (by have := HSZ.out; omega)); have hb2 := HB2.out.off ho1 (HNO.out _ (by omega) (by have := HSZ.out; omega)); have hb3 := HB3.out.off ho1 (HNO.out _ (by omega) (by have := HSZ.out; omega))
    have hb4 := HB4.out.off ho1 (HNO.out _ (by omega) (by have := HSZ.out; omega)); clear h1 ho1 hp1; have hc3 := hb3.cell; have hf3 := hb3.frozen; have hl3 := hb3.lt; have hc4 := hb4.cell; have hf4 := hb4.frozen; have hl4 := hb4.lt
    go_upto_region 28 with fail
    obtain ⟨k1, k2, k3⟩ := put7 (a := .string nd.path) (b := .int .i64 nd.kind) (c := .string nd.data) (d := .int .i64 nd.mode) (x := .int .i64 gi) (y := .int .i64 gs) (z := .int .i64 gt) hb3 hb4; have j1 := hb1.off k3 (by simp); have j2 := hb2.off k3 (by simp)
    refine code_gen (fun W2 => Blk W2 (w.heap.size + 1) 30 #[.string ⟨#[]⟩, .int .i64 0, .string ⟨#[]⟩, .int .i64 0] ∧ Blk W2 (w.heap.size + 2) 39 #[.int .i64 0, .int .i64 0, .int .i64 0] ∧ Blk W2 (w.heap.size + 3) 30 #[.string nd.path, .int .i64 nd.kind, .string nd.data, .int .i64 nd.mode] ∧ Blk W2 (w.heap.size + 4) 39 #[.int .i64 gi, .int .i64 gs, .int .i64 gt] ∧ Off [w.heap.size + 3, w.heap.size + 4] w1 W2) ⟨j1, j2, k1, k2, k3⟩ ?_
    clear hc3 hf3 hl3 hc4 hf4 hl4 k1 k2 k3 j1 j2; clear hb1 hb2 hb3 hb4; rintro W2 ⟨hb1, hb2, hb3, hb4, ho2⟩; have hc1 := hb1.cell; have hf1 := hb1.frozen; have hl1 := hb1.lt; have HC1 := Lib.hid hb1; have hc2 := hb2.cell; have hf2 := hb2.frozen; have hl2 := hb2.lt; have HC2 := Lib.hid hb2; have hc3 := hb3.cell; have hc4 := hb4.cell; have HO2 := Lib.hid ho2; clear hb1 hb2 hb3 hb4 ho2
    go_region
    obtain ⟨k1, k2, k3⟩ := put7 (a := .string nd.path) (b := .int .i64 nd.kind) (c := .string nd.data) (d := .int .i64 nd.mode) (x := .int .i64 gi) (y := .int .i64 gs) (z := .int .i64 gt) HC1.out HC2.out; have he1 := k1.drew.cell; have he2 := k2.drew.cell; have K3 := Lib.hid k3.drew; clear k1 k2 k3 hc1 hf1 hl1 hc2 hf2 hl2 hc3 hc4
    go_wp2_with fail
    refine bodyPost_ret (v := .tuple #[.int .i64 ge, .agg #[.string nd.path, .int .i64 nd.kind, .string nd.data, .int .i64 nd.mode], .agg #[.int .i64 gi, .int .i64 gs, .int .i64 gt], .slice none 0 0]) ?_ rfl ?_
    · have hres : Tryz.f39.results = #[.tmp 4, .cell 5 30, .cell 6 39, .tmp 7] := rfl
      simp only [results, hres]
      go_simp
    rw [HE.out]; exact ⟨⟨_, rfl, ⟨rfl, .inl ⟨rfl, rfl⟩⟩⟩, .inl ⟨RefTo.own H.out HOF.out HT.out ((HO2.out.mono (fun _ _ h => by simp at h ⊢; omega)).trans (K3.out.mono (fun _ _ h => by simp at h ⊢; omega)) (fun _ _ h => h)) HKK.out, (get_fates _ _).trans HFE.out.1, (get_edits _ _).trans HFE.out.2⟩⟩
  by_cases hk9 : what = 9
  · subst hk9
    have HE := Lib.hid (show askE D ⟨9, path, q, data, mode⟩ = (⟨(D.edited.namesC path).1.2, ⟨⟨#[]⟩, 0, ⟨#[]⟩, 0⟩, 0, 0, 0, (D.edited.namesC path).1.1⟩, (D.edited.namesC path).2) from rfl); have hop := Lib.hid (r7in_any p n C G D path W HDS.out HK.out (HA.out.off HOF.out) HS.out.1); unfold InP at hop; clear HG; obtain ⟨ne, hne⟩ : ∃ ne, (D.edited.namesC path).1.2 = ne := ⟨_, rfl⟩
    rw [hne] at hop HE; clear hne; obtain ⟨NL, hNL⟩ : ∃ NL, (D.edited.namesC path).1.1 = NL := ⟨_, rfl⟩
    rw [hNL] at hop HE; clear hNL
    go_wp2_with fail
    refine hop.out.mono ?_
    rintro e w1 ⟨⟨v, rfl, hrow⟩, hT⟩; have HROW := Lib.hid (own_base hrow HOF.out.size); clear hrow; have HT := Lib.hid hT; clear hT hop; obtain ⟨G1, h1, ho1, hp1⟩ := HT.out; have hb1 := HB1.out.off ho1 (HNO.out _ (by omega) (by have := HSZ.out; omega)); have hb2 := HB2.out.off ho1 (HNO.out _ (by omega) (by have := HSZ.out; omega))
    have hb3 := HB3.out.off ho1 (HNO.out _ (by omega) (by have := HSZ.out; omega)); have hb4 := HB4.out.off ho1 (HNO.out _ (by omega) (by have := HSZ.out; omega)); clear h1 ho1 hp1; have HB3W := Lib.hid hb3; have HB4W := Lib.hid hb4
    go_upto_region 28 with fail
    refine code_gen (fun W2 => Blk W2 (w.heap.size + 1) 30 #[.string ⟨#[]⟩, .int .i64 0, .string ⟨#[]⟩, .int .i64 0] ∧ Blk W2 (w.heap.size + 2) 39 #[.int .i64 0, .int .i64 0, .int .i64 0] ∧ Blk W2 (w.heap.size + 3) 30 #[.string ⟨#[]⟩, .int .i64 0, .string ⟨#[]⟩, .int .i64 0] ∧ Blk W2 (w.heap.size + 4) 39 #[.int .i64 0, .int .i64 0, .int .i64 0] ∧ Off [w.heap.size + 3, w.heap.size + 4] w1 W2) ⟨hb1, hb2, hb3, hb4, Off.refl _ _⟩ ?_
    clear hb1 hb2 hb3 hb4; rintro W2 ⟨hb1, hb2, hb3, hb4, ho2⟩; have hc1 := hb1.cell; have hf1 := hb1.frozen; have hl1 := hb1.lt; have HC1 := Lib.hid hb1; have hc2 := hb2.cell; have hf2 := hb2.frozen; have hl2 := hb2.lt; have HC2 := Lib.hid hb2; have hc3 := hb3.cell; have hc4 := hb4.cell; have HO2 := Lib.hid ho2; clear hb1 hb2 hb3 hb4 ho2
    go_region
    obtain ⟨k1, k2, k3⟩ := put7 (a := .string ⟨#[]⟩) (b := .int .i64 0) (c := .string ⟨#[]⟩) (d := .int .i64 0) (x := .int .i64 0) (y := .int .i64 0) (z := .int .i64 0) HC1.out HC2.out; have he1 := k1.drew.cell; have he2 := k2.drew.cell; have K3 := Lib.hid k3.drew; clear k1 k2 k3 hc1 hf1 hl1 hc2 hf2 hl2 hc3 hc4
    go_wp2_with fail
    refine bodyPost_ret (v := .tuple #[.int .i64 ne, .agg #[.string ⟨#[]⟩, .int .i64 0, .string ⟨#[]⟩, .int .i64 0], .agg #[.int .i64 0, .int .i64 0, .int .i64 0], v]) ?_ rfl ?_
    · have hres : Tryz.f39.results = #[.tmp 4, .cell 5 30, .cell 6 39, .tmp 7] := rfl
      simp only [results, hres]
      go_simp
    rw [HE.out]
    exact ⟨⟨_, rfl, own_offk (own_offk HROW.out HO2.out (fun b hb hm => by obtain ⟨cs, h1⟩ := own_blks HROW.out b hb; simp at hm; rcases hm with rfl | rfl; exact h1.ne_ HB3W.out (by decide) rfl; exact h1.ne_ HB4W.out (by decide) rfl)) K3.out (fun b hb hm => by obtain ⟨cs, h1⟩ := own_blks (own_offk HROW.out HO2.out (fun b hb hm => by obtain ⟨cs, h1⟩ := own_blks HROW.out b hb; simp at hm; rcases hm with rfl | rfl; exact h1.ne_ HB3W.out (by decide) rfl; exact h1.ne_ HB4W.out (by decide) rfl)) b hb; simp at hm; rcases hm with rfl | rfl; exact h1.ne_ HC1.out (by decide) rfl; exact h1.ne_ HC2.out (by decide) rfl)⟩, .inl ⟨RefTo.own H.out HOF.out HT.out ((HO2.out.mono (fun _ _ h => by simp at h ⊢; omega)).trans (K3.out.mono (fun _ _ h => by simp at h ⊢; omega)) (fun _ _ h => h)) HKK.out, (names_fates _ _).trans HFE.out.1, (names_edits _ _).trans HFE.out.2⟩⟩
  by_cases hk10 : what = 10
  · subst hk10
    have HE := Lib.hid (show askE D ⟨10, path, q, data, mode⟩ = (zeroA 0, D.boot []) from rfl); have hop := Lib.hid (r7boot0 p G D W HDS.out); clear HG
    go_wp2_with fail
    refine hop.out.mono ?_
    rintro e w1 ⟨rfl, hT⟩; have HT := Lib.hid hT; clear hT hop; obtain ⟨G1, h1, ho1, hp1⟩ := HT.out; have hb1 := HB1.out.off ho1 (HNO.out _ (by omega) (by have := HSZ.out; omega)); have hb2 := HB2.out.off ho1 (HNO.out _ (by omega) (by have := HSZ.out; omega)); have hb3 := HB3.out.off ho1 (HNO.out _ (by omega) (by have := HSZ.out; omega))
    have hb4 := HB4.out.off ho1 (HNO.out _ (by omega) (by have := HSZ.out; omega)); clear h1 ho1 hp1
    go_upto_region 28 with fail
    refine code_gen (fun W2 => Blk W2 (w.heap.size + 1) 30 #[.string ⟨#[]⟩, .int .i64 0, .string ⟨#[]⟩, .int .i64 0] ∧ Blk W2 (w.heap.size + 2) 39 #[.int .i64 0, .int .i64 0, .int .i64 0] ∧ Blk W2 (w.heap.size + 3) 30 #[.string ⟨#[]⟩, .int .i64 0, .string ⟨#[]⟩, .int .i64 0] ∧ Blk W2 (w.heap.size + 4) 39 #[.int .i64 0, .int .i64 0, .int .i64 0] ∧ Off [w.heap.size + 3, w.heap.size + 4] w1 W2) ⟨hb1, hb2, hb3, hb4, Off.refl _ _⟩ ?_
    clear hb1 hb2 hb3 hb4; rintro W2 ⟨hb1, hb2, hb3, hb4, ho2⟩; have hc1 := hb1.cell; have hf1 := hb1.frozen; have hl1 := hb1.lt; have HC1 := Lib.hid hb1; have hc2 := hb2.cell; have hf2 := hb2.frozen; have hl2 := hb2.lt; have HC2 := Lib.hid hb2; have hc3 := hb3.cell; have hc4 := hb4.cell; have HO2 := Lib.hid ho2; clear hb1 hb2 hb3 hb4 ho2
    go_region
    obtain ⟨k1, k2, k3⟩ := put7 (a := .string ⟨#[]⟩) (b := .int .i64 0) (c := .string ⟨#[]⟩) (d := .int .i64 0) (x := .int .i64 0) (y := .int .i64 0) (z := .int .i64 0) HC1.out HC2.out; have he1 := k1.drew.cell; have he2 := k2.drew.cell; have K3 := Lib.hid k3.drew; clear k1 k2 k3 hc1 hf1 hl1 hc2 hf2 hl2 hc3 hc4
    go_wp2_with fail
    refine bodyPost_ret (v := .tuple #[.int .i64 0, .agg #[.string ⟨#[]⟩, .int .i64 0, .string ⟨#[]⟩, .int .i64 0], .agg #[.int .i64 0, .int .i64 0, .int .i64 0], .slice none 0 0]) ?_ rfl ?_
    · have hres : Tryz.f39.results = #[.tmp 4, .cell 5 30, .cell 6 39, .tmp 7] := rfl
      simp only [results, hres]
      go_simp
    rw [HE.out]; exact ⟨⟨_, rfl, ⟨rfl, .inl ⟨rfl, rfl⟩⟩⟩, .inr ⟨RefTo.own H.out HOF.out HT.out ((HO2.out.mono (fun _ _ h => by simp at h ⊢; omega)).trans (K3.out.mono (fun _ _ h => by simp at h ⊢; omega)) (fun _ _ h => h)) HKK.out, rfl, rfl⟩⟩
  have HE := Lib.hid (show askE D ⟨what, path, q, data, mode⟩ = (zeroA 0, D) by rw [HG.out]; simp only [if_neg hk0, if_neg hk1, if_neg hk2, if_neg hk3, if_neg hk4, if_neg hk5, if_neg hk6, if_neg hk7, if_neg hk8, if_neg hk9, if_neg hk10]); have HT := Lib.hid (RefTo.refl HDS.out); clear HG; have hb1 := HB1.out; have hb2 := HB2.out; have hb3 := HB3.out; have hb4 := HB4.out
  go_upto_region 28 with fail
  refine code_gen (fun W2 => Blk W2 (w.heap.size + 1) 30 #[.string ⟨#[]⟩, .int .i64 0, .string ⟨#[]⟩, .int .i64 0] ∧ Blk W2 (w.heap.size + 2) 39 #[.int .i64 0, .int .i64 0, .int .i64 0] ∧ Blk W2 (w.heap.size + 3) 30 #[.string ⟨#[]⟩, .int .i64 0, .string ⟨#[]⟩, .int .i64 0] ∧ Blk W2 (w.heap.size + 4) 39 #[.int .i64 0, .int .i64 0, .int .i64 0] ∧ Off [w.heap.size + 3, w.heap.size + 4] W W2) ⟨hb1, hb2, hb3, hb4, Off.refl _ _⟩ ?_
  clear hb1 hb2 hb3 hb4; rintro W2 ⟨hb1, hb2, hb3, hb4, ho2⟩; have hc1 := hb1.cell; have hf1 := hb1.frozen; have hl1 := hb1.lt; have HC1 := Lib.hid hb1; have hc2 := hb2.cell; have hf2 := hb2.frozen; have hl2 := hb2.lt; have HC2 := Lib.hid hb2; have hc3 := hb3.cell; have hc4 := hb4.cell; have HO2 := Lib.hid ho2; clear hb1 hb2 hb3 hb4 ho2
  go_region
  obtain ⟨k1, k2, k3⟩ := put7 (a := .string ⟨#[]⟩) (b := .int .i64 0) (c := .string ⟨#[]⟩) (d := .int .i64 0) (x := .int .i64 0) (y := .int .i64 0) (z := .int .i64 0) HC1.out HC2.out; have he1 := k1.drew.cell; have he2 := k2.drew.cell; have K3 := Lib.hid k3.drew; clear k1 k2 k3 hc1 hf1 hl1 hc2 hf2 hl2 hc3 hc4
  go_wp2_with fail
  refine bodyPost_ret (v := .tuple #[.int .i64 0, .agg #[.string ⟨#[]⟩, .int .i64 0, .string ⟨#[]⟩, .int .i64 0], .agg #[.int .i64 0, .int .i64 0, .int .i64 0], .slice none 0 0]) ?_ rfl ?_
  · have hres : Tryz.f39.results = #[.tmp 4, .cell 5 30, .cell 6 39, .tmp 7] := rfl
    simp only [results, hres]
    go_simp
  rw [HE.out]; exact ⟨⟨_, rfl, ⟨rfl, .inl ⟨rfl, rfl⟩⟩⟩, .inl ⟨RefTo.own H.out HOF.out HT.out ((HO2.out.mono (fun _ _ h => by simp at h ⊢; omega)).trans (K3.out.mono (fun _ _ h => by simp at h ⊢; omega)) (fun _ _ h => h)) HKK.out, rfl, rfl⟩⟩
end
section
open Go.RowKit Go.Op Go.Maps
theorem new_norm {t : List Node} (hs : Sorted t) : norm (newD t) = newD t := by
  have h : PDisk.sortN (nmOf t 0) = nmOf t 0 := by
    have ha : Apart (nmOf t 0) := nmOf_apart hs
    refine List.Perm.eq_of_pairwise (le := fun a b => leN a b = true) (fun a b ha' hb' h3 h4 => ?_) (List.pairwise_mergeSort leN_trans leN_total (nmOf t 0)) ((nmOf_pair t 0 hs).imp fun {x y} hxy => ?_) (sortN_perm _)
    · have hab : order (str a.1) (str b.1) = 0 := by
        unfold leN at h3 h4; simp only [Bool.not_eq_true', decide_eq_false_iff_not] at h3 h4; rw [order_swap] at h3
        rcases order_range (str a.1) (str b.1) with h | h | h <;> omega
      exact ha.one (sortN_mem.1 ha') hb' (str_inj (order_eq hab))
    unfold leN; have := order_swap (str x.1) (str y.1); simp only [Bool.not_eq_true', decide_eq_false_iff_not]; omega
  unfold norm newD
  show ({ newD' t with names := PDisk.sortN (nmOf t 0), safe := PDisk.sortN (nmOf t 0), later := [] } : PDisk) = _
  rw [h]
  rfl
def nilA : RArg := ⟨.slice none 0 0, .slice none 0 0⟩
def ngeo (nv iv : Value) : RGeo := ⟨nv, .slice none 0 0, .slice none 0 0, [], iv, .slice none 0 0, []⟩
def newE (nm : NameL) (is : List Ino) : PDisk := ⟨nm, [], [], is, false, 0, [], [], [], .slice none 0 0⟩
theorem new_start (w : World) : RefS nilA w w.heap.size [] (w.alloc (.cells #[.slice none 0 0, .slice none 0 0, .slice none 0 0, .slice none 0 0, .bool false, .int .i64 0, .int .i64 0, .slice none 0 0, .slice none 0 0, .slice none 0 0] 69)) (ngeo (.slice none 0 0) (.slice none 0 0)) (newE [] []) :=
  ⟨⟨Blk.new w _ _, ⟨rfl, .inl ⟨rfl, rfl⟩⟩, ⟨rfl, .inl ⟨rfl, rfl⟩⟩, ⟨rfl, .inl ⟨rfl, rfl⟩⟩, fun i v l h1 _ => by simp [ngeo] at h1, ⟨rfl, .inl ⟨rfl, rfl⟩⟩, ⟨rfl, .inl ⟨rfl, rfl⟩⟩,
    ⟨⟨none, 0, rfl, Nat.le_refl _, fun h => absurd rfl h⟩, EditsAt.nil _ _⟩, fun g hg => by cases hg⟩, (Off.refl _ _).alloc _, fun b hb => by
    rcases mem_blocks.1 hb with hb | hb | hb | ⟨_, hb, _⟩ | hb | hb | hb
    all_goals simp [ngeo, Value.ownBlock] at hb⟩
theorem push_name {w W w7 : World} {p M gg cap : Nat} {nv iv : Value} {nm : NameL} {is : List Ino} {x : ByteArray × Nat} {o : Obj} (hS : RefS nilA w p [] W (ngeo nv iv) (newE nm is)) (hM : nm.length = M)
    (hown : w7.ownsRow 0 127 2 (.slice (some ⟨gg, 0, none⟩) (M + 1) cap) (M + 1) (entCells nm ++ [.string x.1, .int .i64 x.2]))
    (hg : (W.drew.alloc o).grownBy w7 nv.ownBlock) (hat : nv.ownBlock = some gg ∨ gg = W.heap.size + 1) :
    RefS nilA w p [] (w7.setCell ⟨p, 0, none⟩ (.slice (some ⟨gg, 0, none⟩) (M + 1) cap)) (ngeo (.slice (some ⟨gg, 0, none⟩) (M + 1) cap) iv) (newE (nm ++ [x]) is) := by
  have hpl : some p ≠ nv.ownBlock := own_ne hS.1.names hS.1.blk (by decide)
  have hX : Off nv.ownBlock.toList W w7 := (((Off.refl _ W).drew).alloc o).grown hg (fun k hk => .inr (by rw [hk]; simp))
  have hO : Only W nv.ownBlock.toList [127] := fun b hb => by
    obtain ⟨cs, hB⟩ := own_blks hS.1.names b hb; exact ⟨_, by simp, _, hB⟩
  have hB7 : Blk w7 p 69 (refCells nilA (ngeo nv iv) (newE nm is)) := ((hS.1.blk.drew).alloc o).grown hg hpl
  have hP : RefP w7 (ngeo (.slice (some ⟨gg, 0, none⟩) (M + 1) cap) iv) (newE (nm ++ [x]) is) :=
    ⟨by
      show w7.ownsRow 0 127 2 _ (nm ++ [x]).length (entCells (nm ++ [x]))
      rw [entCells_snoc, List.length_append, hM]; exact hown, ⟨rfl, .inl ⟨rfl, rfl⟩⟩, ⟨rfl, .inl ⟨rfl, rfl⟩⟩, fun i v l h1 _ => by simp [ngeo] at h1, hO.row hX hS.1.inos (by decide), ⟨rfl, .inl ⟨rfl, rfl⟩⟩,
      ⟨⟨none, 0, rfl, Nat.le_refl _, fun h => absurd rfl h⟩, EditsAt.nil _ _⟩, fun g hg => by cases hg⟩
  refine ⟨(hP.self hB7 ((Off.refl [p] w7).setCell (p := ⟨p, 0, none⟩) (.inr (by simp)) _)).with ?_, ?_, fun b hb => ?_⟩
  · have := hB7.set_ 0 (.slice (some ⟨gg, 0, none⟩) (M + 1) cap)
    unfold refCells ngeo newE nilA at this ⊢
    simpa using this
  · refine (hS.2.1.trans hX (fun y hy hm => ?_)).setCell (p := ⟨p, 0, none⟩) (.inr (List.mem_cons_self ..)) _
    rcases hS.2.2 y (mem_blocks.2 (.inl hm)) with h | h
    · cases h
    omega
  have hsz := hS.2.1.size
  rcases mem_blocks.1 hb with hb | hb | hb | ⟨_, hb, _⟩ | hb | hb | hb
  · simp [ngeo, Value.ownBlock] at hb
    subst hb
    rcases hat with h | h
    · exact hS.2.2 _ (mem_blocks.2 (.inl (by show _ ∈ nv.ownBlock.toList; rw [h]; simp)))
    exact .inr (by omega)
  · simp [ngeo, Value.ownBlock] at hb
  · simp [ngeo, Value.ownBlock] at hb
  · simp [ngeo] at hb
  · exact hS.2.2 b (mem_blocks.2 (.inr (.inr (.inr (.inr (.inl hb))))))
  · simp [ngeo, Value.ownBlock] at hb
  simp [ngeo] at hb
def NewAt (w : World) (t : List Node) (i : Nat) (wr : World) : Prop := ∃ nv iv, RefS nilA w w.heap.size [] wr (ngeo nv iv) (newE (nmOf (t.take i) 0) ((t.take i).map fun n => (⟨n, 0, false⟩ : Ino)))
theorem nmOf_snoc {t : List Node} {i : Nat} {x : Node} (h : t[i]? = some x) : nmOf (t.take (i + 1)) 0 = nmOf (t.take i) 0 ++ [(x.path, i + 1)] := by
  have hi := (List.getElem?_eq_some_iff.1 h).1; rw [List.take_add_one, h, show (some x).toList = [x] from rfl, nmOf_append, List.length_take, Nat.min_eq_left (by omega)]; simp [nmOf]
theorem new_end {w wr : World} {t : List Node} {nv iv : Value} (hS : RefS nilA w w.heap.size [] wr (ngeo nv iv) (newE (nmOf t 0) (t.map fun n => (⟨n, 0, false⟩ : Ino)))) (hs : Sorted t) :
    ∃ g G, Value.pointer (some ⟨w.heap.size, 0, none⟩) = .pointer (some ⟨g, 0, none⟩) ∧ RefM nilA (wr.setCell ⟨w.heap.size, 1, none⟩ nv) g G (norm (newD t)) ∧ w.heap.size ≤ g ∧ (∀ b ∈ G.blocks, w.heap.size ≤ b) ∧ Off [] w (wr.setCell ⟨w.heap.size, 1, none⟩ nv) := by
  have h2 := hS.putSafe (v := nv) hS.1.names (fun b hb => hS.2.2 b (mem_blocks.2 (.inl hb))); refine ⟨w.heap.size, { ngeo nv iv with sv := nv }, rfl, ?_, Nat.le_refl _, fun b hb => ?_, ?_⟩
  · rw [new_norm hs]
    exact h2.1
  · rcases h2.2.2 b hb with h | h
    · cases h
    exact h
  have h3 := h2.2.1; exact (Off.refl [] w).trans h3 (fun x hx hm => by simp at hm; omega)
theorem node_off7 {w w' : World} {a : Addr} {x : Node} {g : Nat} (h : NodeAt w a x) (hb : a.block < w.heap.size) (ho : Off [g] w w') (hg : w.heap.size ≤ g) : NodeAt w' a x := by
  have hn : a.block ∉ [g] := by simp; omega
  exact ⟨(ho.cell hb hn).trans h.path, (ho.cell (p := ⟨a.block, a.off + 1, none⟩) hb hn).trans h.kind, (ho.cell (p := ⟨a.block, a.off + 2, none⟩) hb hn).trans h.data, (ho.cell (p := ⟨a.block, a.off + 3, none⟩) hb hn).trans h.mode⟩
set_option maxRecDepth 100000 in
set_option maxHeartbeats 16000000 in
theorem r7new_ok (pp : Option Addr) (t : List Node) (n c : Nat) (w : World) (hR : Row w pp t) (hn : t.length = n) (hok : okTree t = true) (hF : Fits1 t) :
    Calls Tryz.prog 26 #[.slice pp n c] w fun e w' => ∃ g G, e = .returned (.tuple #[.pointer (some ⟨g, 0, none⟩), .int .i64 0]) ∧ RefM nilA w' g G (norm (newD t)) ∧ w.heap.size ≤ g ∧ (∀ b ∈ G.blocks, w.heap.size ≤ b) ∧ Off [] w w' := by
  obtain ⟨i0, hi0, hz0, hz1, hz2⟩ := info_parts infoIno; obtain ⟨i1, hi1, hy0, hy1, hy2⟩ := info_parts infoEnt; have hbig : n ≤ 1000 := by rw [← hn]; exact okTree_len hok
  have HCK := Lib.hid (rcheck_v pp t n c w hR hn (by omega) hF 0 (by unfold chkV; rw [hok]; rfl)); have HR := Lib.hid hR; have HN := Lib.hid hn; have HSO := Lib.hid (okTree_sorted hok); clear hR hn hok hF
  go_enter Tryz.func26, Tryz.ntmps26
  go_wp2_with fail
  refine HCK.out.mono ?_
  rintro e w0 ⟨rfl, ho0⟩; have HO0 := Lib.hid ho0; have HR0 := Lib.hid (HR.out.off ho0); clear ho0 HCK
  go_upto_region 4 with fail
  refine code_gen (fun W => NewAt w0 t 0 W) ⟨_, _, new_start w0⟩ ?_
  rintro W hA; have HST := Lib.hid hA; clear hA
  go_wp2_with fail
  go_loopw [5] (fun x wr => ∃ i : Nat, x = .int .i64 i ∧ i ≤ n ∧ Hid (NewAt w0 t i wr)) (fun x _ => n - (intOf x).toNat)
  case atStart => exact ⟨0, rfl, by omega, HST⟩
  case round =>
    clear HST; obtain ⟨i, rfl, hi, HI⟩ := hrel; obtain ⟨nv, iv, hS⟩ := HI.out
    by_cases hlt : i < n
    · have hil : i < t.length := by rw [HN.out]; exact hlt
      obtain ⟨a, rfl, hna0, hab0⟩ := HR0.out.get i hil; have hxi := List.getElem?_eq_getElem hil; generalize t[i] = x at *; have HX := Lib.hid hxi; have HNM := Lib.hid (nmOf_snoc hxi); have HIS := Lib.hid (show (t.take (i + 1)).map (fun n => (⟨n, 0, false⟩ : Ino)) = (t.take i).map (fun n => (⟨n, 0, false⟩ : Ino)) ++ [⟨x, 0, false⟩] by rw [List.take_add_one, hxi, List.map_append]; rfl)
      have HML := Lib.hid (show ((t.take i).map (fun n => (⟨n, 0, false⟩ : Ino))).length = i by rw [List.length_map, List.length_take]; omega); have HNL := Lib.hid (show (nmOf (t.take i) 0).length = i by rw [nmOf_len, List.length_take]; omega); generalize nmOf (t.take i) 0 = nm at *; generalize (t.take i).map (fun n => (⟨n, 0, false⟩ : Ino)) = is at *; have HS := Lib.hid hS
      have HNA := Lib.hid (fun (W : World) (ho : Off [w0.heap.size] w0 W) => node_off7 hna0 (by rw [add_block]; exact hab0) ho (Nat.le_refl _)); have hna := HNA.out wr hS.2.1; have hab := Nat.lt_of_lt_of_le hab0 hS.2.1.size; obtain ⟨pi, ci, hiv, -, -, -⟩ := own_at hS.1.inos; have hiv : iv = .slice pi is.length ci := hiv
      rw [HML.out] at hiv; subst hiv; obtain ⟨pn, cn, hnv, -, -, -⟩ := own_at hS.1.names; have hnv : nv = .slice pn nm.length cn := hnv
      rw [HNL.out] at hnv; subst hnv; have hB := hS.1.blk; have hc := hB.cell; have hf := hB.frozen; have hlp := hB.lt; unfold refCells ngeo newE nilA at hc; dsimp only at hc; have c0 := hna.path; have c1 := hna.kind; have c2 := hna.data; have c3 := hna.mode; have hab2 : (a.add (i * 4)).block < wr.heap.size := by rw [add_block]; exact hab
      have hown6 : (wr.drew.alloc (.cells #[.int .i64 x.kind, .int .i64 x.mode, .int .i64 0, .string x.data, .bool false] 125)).ownsRow 0 125 5 (.slice pi i ci) i (rinoCells is) := by
        have := own_offk (k := []) hS.1.inos ((Off.refl [] wr).drew.alloc (.cells #[.int .i64 x.kind, .int .i64 x.mode, .int .i64 0, .string x.data, .bool false] 125)) (by simp); have this : World.ownsRow _ 0 125 5 (.slice pi i ci) is.length (rinoCells is) := this
        rw [HML.out] at this; exact this
      have HW6 := Lib.hid hown6; have HPL := Lib.hid (show some w0.heap.size ≠ (Value.slice pi i ci).ownBlock from own_ne hown6 (hB.drew.alloc _) (by decide)); have HBP := Lib.hid (hB.drew.alloc (.cells #[.int .i64 x.kind, .int .i64 x.mode, .int .i64 0, .string x.data, .bool false] 125)); have hilt : (i : Int) < n := by omega
      have HAB := Lib.hid hab0; clear hS hB hown6 hna hna0 hab0 hxi HI
      go_wp2_with fail
      go_cut [] from 17 to 41 (fun wx => ∃ iv', RefS nilA w0 w0.heap.size [] wx (ngeo (.slice pn i cn) iv') (newE nm (is ++ [⟨x, 0, false⟩])))
      case first =>
        go_region_law ((refine step_append_lies _ (by rfl) _ _ _ (by rfl) 0 125 i0 _ 5 48 Tryz.underlying66 hi0 hz0 hz1 hz2 rfl (by decide) _ i _ (by rfl) HW6.out ⟨wr.heap.size, 0, none⟩ 1 1 [_, _, _, _, _] (by rfl) (by rfl) (five_at (Blk.new wr.drew _ _)) (by simp [Value.oneCell']) (by omega) (by unfold maxLen; omega) (by omega) (by simp) (wr.heap.size + 1) (by simp) ?_; intro gg cap w7 hown7 hgrow7 hat7 hlt7; have hB7 := HBP.out.grown hgrow7 HPL.out; have hc7 := hB7.cell; have hf7 := hB7.frozen; unfold refCells ngeo newE nilA at hc7))
        all_goals go_wp2_with fail
        all_goals go_meet
        all_goals exact ⟨_, push_ino (G := ngeo (.slice pn i cn) (.slice pi i ci)) (E := newE nm is) (n := ⟨x, 0, false⟩) HS.out HML.out (by assumption) (by assumption) (by assumption)⟩
      case rest =>
        obtain ⟨iv', hS3⟩ := hcut; have HS3 := Lib.hid hS3; have hna := HNA.out wc hS3.2.1; have hab3 : (a.add (i * 4)).block < wc.heap.size := by
          have := hS3.2.1.size; have h2 := HS.out.2.1.size; have h3 := HAB.out; rw [add_block]; omega
        have hB := hS3.1.blk; clear hc hf hlp c0 c1 c2 c3 hab2 HW6 HPL HBP hab; have hc := hB.cell; have hf := hB.frozen; have hlp := hB.lt; unfold refCells ngeo newE nilA at hc; dsimp only at hc; have c0 := hna.path; have hown6 : (wc.drew.alloc (.cells #[.string x.path, .int .i64 ((i : Int) + 1)] 127)).ownsRow 0 127 2 (.slice pn i cn) i (entCells nm) := by
          have := own_offk (k := []) hS3.1.names ((Off.refl [] wc).drew.alloc (.cells #[.string x.path, .int .i64 ((i : Int) + 1)] 127)) (by simp); have this : World.ownsRow _ 0 127 2 (.slice pn i cn) nm.length (entCells nm) := this
          rw [HNL.out] at this; exact this
        have HW6 := Lib.hid hown6; have HPL := Lib.hid (show some w0.heap.size ≠ (Value.slice pn i cn).ownBlock from own_ne hown6 (hB.drew.alloc _) (by decide)); have HBP := Lib.hid (hB.drew.alloc (.cells #[.string x.path, .int .i64 ((i : Int) + 1)] 127)); have hwi : IntKind.i64.wrap ((i : Int) + 1) = (i : Int) + 1 := IntWalk.i64_in _ (by omega)
        clear hS3 hB hown6 hna
        go_wp2_with fail
        go_region_law ((refine step_append_lies _ (by rfl) _ _ _ (by rfl) 0 127 i1 _ 2 24 Tryz.underlying64 hi1 hy0 hy1 hy2 rfl (by decide) _ i _ (by rfl) HW6.out ⟨wc.heap.size, 0, none⟩ 1 1 [_, _] (by rfl) (by rfl) (cell_two_at (Blk.new wc.drew _ _)) (by simp [Value.oneCell']) (by omega) (by unfold maxLen; omega) (by omega) (by simp) (wc.heap.size + 1) (by simp) ?_; intro gg cap w7 hown7 hgrow7 hat7 hlt7; have hB7 := HBP.out.grown hgrow7 HPL.out; have hc7 := hB7.cell; have hf7 := hB7.frozen; unfold refCells ngeo newE nilA at hc7))
        all_goals go_wp2_with fail
        all_goals refine ⟨⟨i + 1, by congr 1, by omega, Lib.hid ⟨.slice (some ⟨gg, 0, none⟩) (i + 1) cap, iv', ?_⟩⟩, by simp only [intOf]; omega⟩
        all_goals rw [HNM.out, HIS.out]
        all_goals exact push_name (x := (x.path, i + 1)) HS3.out HNL.out (by assumption) (by assumption) (by assumption)
    obtain rfl : i = n := by omega
    have HTK := Lib.hid (show t.take i = t from List.take_of_length_le (by rw [HN.out]; exact Nat.le_refl _)); rw [HTK.out] at hS; have HS := Lib.hid hS; obtain ⟨pn, cn, hnv, -, -, -⟩ := own_at hS.1.names; have hnv : nv = .slice pn (nmOf t 0).length cn := hnv
    rw [nmOf_len, HN.out] at hnv; subst hnv; have hB := hS.1.blk; have hc := hB.cell; have hf := hB.frozen; have hlp := hB.lt; unfold refCells ngeo newE nilA at hc; dsimp only at hc; clear hS hB HI
    go_wp2_with fail
    go_ret2
    obtain ⟨g, G, h1, h2, h3, h4, h5⟩ := new_end HS.out HSO.out; refine ⟨g, G, by rw [← h1]; rfl, h2, Nat.le_trans HO0.out.size h3, fun b hb => Nat.le_trans HO0.out.size (h4 b hb), HO0.out.trans_nil h5⟩
set_option maxRecDepth 100000 in
set_option maxHeartbeats 4000000 in
theorem r7new_bad (pp : Option Addr) (t : List Node) (n c : Nat) (w : World) (hR : Row w pp t) (hn : t.length = n) (hb : n ≤ 1099511627776) (hok : okTree t = false) (hF : Fits1 t) :
    Calls Tryz.prog 26 #[.slice pp n c] w fun e w' => e = .returned (.tuple #[.pointer none, .int .i64 60]) ∧ Off [] w w' := by
  have HCK := Lib.hid (rcheck_v pp t n c w hR hn hb hF 60 (by unfold chkV; rw [hok]; rfl)); clear hR hn hok hF
  go_enter Tryz.func26, Tryz.ntmps26
  go_wp2_with fail
  refine HCK.out.mono ?_
  rintro e w0 ⟨rfl, ho0⟩
  go_wp2_with fail
  go_ret2
  exact ⟨rfl, ho0⟩
end
section
open Go.RowKit Go.Op Go.Maps
set_option maxRecDepth 100000 in
set_option maxHeartbeats 4000000 in
theorem tclone7 (v : Value) (fs : List DidP) (w : World) (hR : w.ownsRow 0 73 3 v fs.length (didCells fs)) (hbig : fs.length ≤ 1000000000) :
    Calls Tryz.prog 71 #[v] w fun e w' => ∃ v, e = .returned v ∧ w'.ownsRow w.heap.size 73 3 v fs.length (didCells fs) ∧ Off [] w w' := by
  obtain ⟨n, hn⟩ : ∃ n, fs.length = n := ⟨_, rfl⟩
  rw [hn] at hR hbig; rw [hn]; obtain ⟨i0, hi0, hz0, hz1, hz2⟩ := info_parts infoDid; have q22 : ∀ (w : World) (a : Option Addr) (n c n' c' : Nat), (binOp .eql 67 (.slice a n c) (.slice none n' c')).run Tryz.prog w = .ok (.bool a.isNone) w := fun w a n c n' c' => Lib.run_eql_slice_nil w _ _ a n c n' c' Tryz.underlying67
  have hl := hR.1
  rcases hR.2 with ⟨rfl, h0⟩ | ⟨g, cap, cur, rfl, hb, hh, hc, _, hsz, ht⟩
  · subst h0
    obtain rfl : fs = [] := List.length_eq_zero_iff.1 hn
    clear hR
    go_enter Tryz.func71, Tryz.ntmps71
    go_wp2_with fail
    go_ret
    exact ⟨_, rfl, ⟨rfl, .inl ⟨rfl, rfl⟩⟩, Off.refl _ _⟩
  have HC := Lib.hid (show ∀ (j : Nat) (u : Value), (didCells fs)[j]? = some u → w.cell? ((⟨g, 0, none⟩ : Addr).add j) = some u from fun j u hj => by
    have hB : Blk w g 73 cur := hh
    rw [addr_add, hB.cell]; rw [← ht, List.getElem?_take] at hj
    split at hj
    · simpa using hj
    cases hj)
  have HO := Lib.hid (did_one fs); have HCL := Lib.hid (show (didCells fs).length = n * 3 by rw [did_len, hn]); clear hR hn hl hb hh hc hsz ht
  go_enter Tryz.func71, Tryz.ntmps71
  go_wp2_with (at_builtin; refine wpList_append_own _ rfl _ _ 67 rfl w.heap.size 73 i0 _ 3 48 Tryz.underlying67 hi0 hz0 hz1 hz2 rfl (by decide) _ _ _ rfl (World.ownsRow_made w #[] 0 (Nat.le_refl _) (Nat.zero_le _) rfl) (⟨g, 0, none⟩ : Addr) n cap (didCells fs) rfl HCL.out ?qc2 HO.out ?qc4 ?qc5 ?qc6 ?_)
  case qc2 =>
    intro j u hj
    exact Lib.cell?_alloc_some _ (HC.out j u hj)
  case qc4 => unfold maxLen; omega
  case qc5 => omega
  case qc6 => simp
  intro v' w1 hown hgrow hnil
  go_wp2_with fail
  go_ret
  refine ⟨v', rfl, by simpa using hown, ?_⟩
  exact ((Off.refl _ w).alloc _).grown hgrow (by intro k hk; simp [Value.ownBlock] at hk; omega)
set_option maxRecDepth 100000 in
set_option maxHeartbeats 4000000 in
theorem dtrace_callE (p n : Nat) (G : Geo) (D : PDisk) (w : World) (h : DSE w p G D n) (hn : n ≤ 40000000) : Calls Tryz.prog 34 #[.pointer (some ⟨p, 0, none⟩)] w fun e w' => ∃ v, e = .returned v ∧ w'.ownsRow w.heap.size 73 3 v D.trace.length (didCells D.trace) ∧ Off [] w w' := by
  have HCL := Lib.hid (tclone7 G.tv D.trace w h.m.parts.trace (by have := h.ok.tlen; omega)); have hc0 := h.m.blk.cell; unfold diskCells at hc0; clear h
  go_enter Tryz.func34, Tryz.ntmps34
  go_wp2_with fail
  refine HCL.out.mono ?_
  rintro e w1 ⟨v, rfl, hown, ho⟩
  go_wp2_with fail
  go_ret
  exact ⟨v, rfl, hown, ho⟩
set_option maxRecDepth 100000 in
theorem dsteps_callE (p n : Nat) (G : Geo) (D : PDisk) (w : World) (h : DSE w p G D n) : Calls Tryz.prog 31 #[.pointer (some ⟨p, 0, none⟩)] w fun e w' => e = .returned (.int .i64 D.trace.length) ∧ Off [] w w' := by
  obtain ⟨pt, ct, htv⟩ := row_len h.m.parts.trace; have hc := h.m.blk.cell; unfold diskCells at hc; rw [htv] at hc; generalize D.trace.length = T at hc ⊢; clear h htv
  go_enter Tryz.func31, Tryz.ntmps31
  go_wp2_with fail
  go_ret
  exact ⟨rfl, Off.refl _ _⟩
set_option maxRecDepth 100000 in
set_option maxHeartbeats 4000000 in
theorem dstep_nil (call : ByteArray) (ao : Option Addr) (k c : Nat) (w : World) : Calls Tryz.prog 47 #[.pointer none, .string call, .slice ao k c] w fun e w' => e = .returned (.tuple #[.bool false, .int .i64 75]) ∧ Off [] w w' := by
  go_enter Tryz.func47, Tryz.ntmps47
  go_wp2_with fail
  go_ret2
  exact ⟨rfl, Off.refl _ _⟩
set_option maxRecDepth 100000 in
set_option maxHeartbeats 4000000 in
theorem dwrite_nil (path data : ByteArray) (mode : Int) (w : World) : Calls Tryz.prog 16 #[.pointer none, .string path, .string data, .int .i64 mode] w fun e w' => e = .returned (.int .i64 75) ∧ Off [] w w' := by
  go_enter Tryz.func16, Tryz.ntmps16
  go_wp2_with fail
  refine (dstep_nil _ _ _ _ _).mono ?_
  rintro e w1 ⟨rfl, ho⟩
  go_wp2_with fail
  go_ret
  exact ⟨rfl, ((Off.refl [] w).alloc _).trans_nil ho⟩
set_option maxRecDepth 100000 in
theorem don_nil (w : World) : Calls Tryz.prog 36 #[.pointer none] w fun e w' => e = .returned (.bool false) ∧ Off [] w w' := by
  go_enter Tryz.func36, Tryz.ntmps36
  go_wp2_with fail
  go_ret
  exact ⟨rfl, Off.refl _ _⟩
set_option maxRecDepth 100000 in
theorem dsteps_nil (w : World) : Calls Tryz.prog 31 #[.pointer none] w fun e w' => e = .returned (.int .i64 0) ∧ Off [] w w' := by
  go_enter Tryz.func31, Tryz.ntmps31
  go_wp2_with fail
  go_ret
  exact ⟨rfl, Off.refl _ _⟩
set_option maxRecDepth 100000 in
theorem dtree_nil (w : World) : Calls Tryz.prog 24 #[.pointer none] w fun e w' => e = .returned (.slice none 0 0) ∧ Off [] w w' := by
  go_enter Tryz.func24, Tryz.ntmps24
  go_wp2_with fail
  go_ret
  exact ⟨rfl, Off.refl _ _⟩
set_option maxRecDepth 100000 in
theorem dtrace_nil (w : World) : Calls Tryz.prog 34 #[.pointer none] w fun e w' => e = .returned (.slice none 0 0) ∧ Off [] w w' := by
  go_enter Tryz.func34, Tryz.ntmps34
  go_wp2_with fail
  go_ret
  exact ⟨rfl, Off.refl _ _⟩
theorem RunE.wrote7 {w0 w w' : World} {p n : Nat} {D : PDisk} {k l k' : List Nat} (h : RunE w0 w p D n k) (hT : Tabs w0) (ho : Off l w w') (hl : ∀ b ∈ l, b ∈ k ∧ w0.heap.size ≤ b) (hk : ∀ b ∈ k', b ∈ k ∨ (w.heap.size ≤ b ∧ b < w'.heap.size)) : RunE w0 w' p D n k' := by
  obtain ⟨G, h1, h2, h3, h4, h5⟩ := h; have ho2 : Off [] w0 w' := h2.trans ho (fun x hx hm => by have := (hl x hm).2; omega)
  refine ⟨G, ⟨h1.m.off ho (fun hm => (h5 p (hl p hm).1).2 (List.mem_cons_self ..)) (fun b hb hm => (h5 b (hl b hm).1).2 (List.mem_cons_of_mem _ hb)), h1.sb, h1.ok, TabsX.of hT ho2 h3 h4⟩, ho2, h3, h4, fun b hb => ?_⟩
  rcases hk b hb with h6 | ⟨h6, h7⟩
  · exact ⟨Nat.lt_of_lt_of_le (h5 b h6).1 ho.size, (h5 b h6).2⟩
  refine ⟨h7, fun hm => ?_⟩
  rcases List.mem_cons.1 hm with rfl | hm
  · have := h1.m.blk.lt; omega
  have := h1.m.parts.lt hm; omega
theorem RefM.kept {A : RArg} {w w' : World} {p : Nat} {G : RGeo} {E : PDisk} (h : RefM A w p G E) (hk : Kept (p :: G.blocks) w w') : RefM A w' p G E where
  blk := hk.blk h.blk (List.mem_cons_self ..)
  names := hk.row h.names fun b hm => List.mem_cons_of_mem _ (mem_blocks.2 (.inl hm))
  safe := hk.row h.safe fun b hm => List.mem_cons_of_mem _ (mem_blocks.2 (.inr (.inl hm)))
  later := hk.row h.later fun b hm => List.mem_cons_of_mem _ (mem_blocks.2 (.inr (.inr (.inl hm))))
  laters := fun i v l h1 h2 => hk.row (h.laters i v l h1 h2) fun b hm => List.mem_cons_of_mem _ (mem_blocks.2 (.inr (.inr (.inr (.inl ⟨v, List.mem_of_getElem? h1, hm⟩)))))
  inos := hk.row h.inos fun b hm => List.mem_cons_of_mem _ (mem_blocks.2 (.inr (.inr (.inr (.inr (.inl hm))))))
  trace := hk.row h.trace fun b hm => List.mem_cons_of_mem _ (mem_blocks.2 (.inr (.inr (.inr (.inr (.inr (.inl hm)))))))
  fates := ⟨⟨none, 0, rfl, Nat.le_refl _, fun h => absurd rfl h⟩, EditsAt.nil _ _⟩
  fbl := fun g hg => by
    obtain ⟨t, cs, hB, hW⟩ := h.fbl g hg; exact ⟨t, cs, hk.blk hB (List.mem_cons_of_mem _ (mem_blocks.2 (.inr (.inr (.inr (.inr (.inr (.inr hg)))))))), hW⟩
structure Pair (w0 w : World) (gd gr : Nat) (D E : PDisk) (n : Nat) (A : RArg) (G : RGeo) (kx : List Nat) : Prop where
  run : RunE w0 w gd E n ((gr :: G.blocks) ++ kx)
  ref : RefM A w gr G (norm D)
  base : ∀ b ∈ gr :: G.blocks, w0.heap.size ≤ b
  arg : FArg w0 A.fv D.fates ∧ EArg w0 A.ev D.edits
  far : ∀ b ∈ kx, b ∉ gr :: G.blocks
section
variable {w0 w w' : World} {gd gr n m C : Nat} {D E : PDisk} {A : RArg} {G : RGeo} {kx k' : List Nat}
theorem Pair.lt (h : Pair w0 w gd gr D E n A G kx) {b : Nat} (hb : b ∈ gr :: G.blocks) : b < w.heap.size := by
  rcases List.mem_cons.1 hb with rfl | hb
  · exact h.ref.blk.lt
  exact h.ref.lt hb
theorem Pair.more (h : Pair w0 w gd gr D E n A G kx) (ho : Off [] w w') (hk : ∀ b ∈ k', w.heap.size ≤ b ∧ b < w'.heap.size) : Pair w0 w' gd gr D E n A G (k' ++ kx) :=
  ⟨(h.run.more ho hk).drop (fun b hb => by
      rcases List.mem_append.1 hb with hb | hb
      · exact List.mem_append_right _ (List.mem_append_left _ hb)
      rcases List.mem_append.1 hb with hb | hb
      · exact List.mem_append_left _ hb
      exact List.mem_append_right _ (List.mem_append_right _ hb)), h.ref.off_nil ho, h.base, h.arg, fun b hb hm => by
    rcases List.mem_append.1 hb with hb | hb
    · have := h.lt hm
      have := (hk b hb).1; omega
    exact h.far b hb hm⟩
theorem Pair.off (h : Pair w0 w gd gr D E n A G kx) (ho : Off [] w w') : Pair w0 w' gd gr D E n A G kx := h.more (k' := []) ho (fun b hb => by cases hb)
theorem Pair.drop (h : Pair w0 w gd gr D E n A G kx) (hk : ∀ b ∈ k', b ∈ kx) : Pair w0 w gd gr D E n A G k' :=
  ⟨h.run.drop (fun b hb => by
      rcases List.mem_append.1 hb with hb | hb
      · exact List.mem_append_left _ hb
      exact List.mem_append_right _ (hk b hb)), h.ref, h.base, h.arg, fun b hb => h.far b (hk b hb)⟩
theorem Pair.le (h : Pair w0 w gd gr D E n A G kx) (hm : n ≤ m) : Pair w0 w gd gr D E m A G kx := ⟨h.run.le hm, h.ref, h.base, h.arg, h.far⟩
theorem Pair.wrote {l : List Nat} (h : Pair w0 w gd gr D E n A G kx) (hT : Tabs w0) (ho : Off l w w') (hl : ∀ b ∈ l, b ∈ kx ∧ w0.heap.size ≤ b) : Pair w0 w' gd gr D E n A G kx := by
  have hr : ∀ b ∈ gr :: G.blocks, b ∉ l := fun b hb hm => h.far b (hl b hm).1 hb
  exact ⟨h.run.wrote7 hT ho (fun b hb => ⟨List.mem_append_right _ (hl b hb).1, (hl b hb).2⟩) (fun b hb => .inl hb), h.ref.off ho (hr gr (List.mem_cons_self ..)) (fun b hb => hr b (List.mem_cons_of_mem _ hb)), h.base, h.arg, h.far⟩
theorem pair_ask (h : Pair w0 w gd gr D D n A G kx) (hf : Fine D n) (hd : EdC C D) (hn : n + C ≤ 40000000) (c : CallP) (hs1 : c.path.size ≤ 9223372036854775807) (hs2 : c.to_.size ≤ 9223372036854775807) :
    Calls Tryz.prog 35 #[.pointer (some ⟨gd, 0, none⟩), .agg #[.int .i64 c.what, .string c.path, .string c.to_, .string c.data, .int .i64 c.mode]] w fun e w' => AskP w.heap.size (askE D c).1 e w' ∧ Pair w0 w' gd gr D (askE D c).2 (n + C + 2) A G kx ∧ Kept kx w w' :=
  (runC_ask h.run hf hd hn c hs1 hs2).mono fun e w' ⟨he, hr, hk⟩ => ⟨he, ⟨hr, h.ref.kept fun b hb => hk b (List.mem_append_left _ hb), h.base, h.arg, h.far⟩, fun b hb => hk b (List.mem_append_right _ hb)⟩
theorem pair_want (h : Pair w0 w gd gr D E m A G kx) (hT : Tabs w0) (hk : Ref0 C D n) (c : CallP) (hE : (askE D c).2 = E) (hs1 : c.path.size ≤ 1048576) (hs2 : c.to_.size ≤ 1048576) :
    Calls Tryz.prog 39 #[.pointer (some ⟨gr, 0, none⟩), .agg #[.int .i64 c.what, .string c.path, .string c.to_, .string c.data, .int .i64 c.mode]] w fun e w' => AskP w.heap.size (askE D c).1 e w' ∧ (∃ A' G', Pair w0 w' gd gr E E m A' G' kx) ∧ Off (gr :: G.blocks) w w' := by
  subst hE; have hb0 : ∀ {W : World}, Off (gr :: G.blocks) w W → Off [] w0 W := fun hW => h.run.since.trans hW (fun x hx hm => by have := h.base x hm; omega)
  refine (r7want_e gr n C G D c w h.ref hk (fun W hW => ⟨h.arg.1.off (hb0 hW), h.arg.2.off (hb0 hW)⟩) hs1 hs2).mono fun e w' ⟨he, hT2⟩ => ?_
  have key : ∀ {A' : RArg}, RefTo A' w gr G.blocks w' (norm (askE D c).2) → FArg w0 A'.fv (askE D c).2.fates ∧ EArg w0 A'.ev (askE D c).2.edits → (∃ A' G', Pair w0 w' gd gr (askE D c).2 (askE D c).2 m A' G' kx) ∧ Off (gr :: G.blocks) w w' := fun {A'} ⟨G', h1, h2, h3⟩ ha => by
    have hb : ∀ b ∈ gr :: G'.blocks, b ∈ gr :: G.blocks ∨ w.heap.size ≤ b := fun b hb => by
      rcases List.mem_cons.1 hb with rfl | hb
      · exact .inl (List.mem_cons_self ..)
      rcases h3 b hb with h4 | h4
      · exact .inl (List.mem_cons_of_mem _ h4)
      exact .inr h4
    have hlt : ∀ b ∈ gr :: G'.blocks, b < w'.heap.size := fun b hb => by
      rcases List.mem_cons.1 hb with rfl | hb
      · exact h1.blk.lt
      exact h1.lt hb
    have hkx : ∀ b ∈ kx, b < w.heap.size := fun b hb => by
      obtain ⟨_, _, _, _, _, h5⟩ := h.run; exact (h5 b (List.mem_append_right _ hb)).1
    refine ⟨⟨A', G', h.run.wrote7 hT h2 (fun b hb => ⟨List.mem_append_left _ hb, h.base b hb⟩) (fun b hb2 => ?_), h1, fun b hb2 => ?_, ha, fun b hb2 hm => ?_⟩, h2⟩
    · rcases List.mem_append.1 hb2 with hb2 | hb2
      · rcases hb b hb2 with h4 | h4
        · exact .inl (List.mem_append_left _ h4)
        exact .inr ⟨h4, hlt b hb2⟩
      exact .inl (List.mem_append_right _ hb2)
    · rcases hb b hb2 with h4 | h4
      · exact h.base b h4
      exact Nat.le_trans h.run.since.size h4
    rcases hb b hm with h4 | h4
    · exact h.far b hb2 h4
    have := hkx b hb2; omega
  refine ⟨he, ?_⟩
  rcases hT2 with ⟨h1, h2, h3⟩ | ⟨h1, h2, h3⟩
  · exact key h1 (by rw [h2, h3]; exact h.arg)
  exact key h1 (by rw [h2, h3]; exact ⟨⟨none, 0, rfl, FRow.nil _ _⟩, none, 0, rfl, by decide, ERow.nil _ _⟩)
theorem Pair.on (h : Pair w0 w gd gr D E n A G kx) : Calls Tryz.prog 36 #[.pointer (some ⟨gd, 0, none⟩)] w fun e w' => e = .returned (.bool (!E.off)) ∧ Off [] w w' :=
  (runE_on h.run).mono fun e w' ⟨he, _, ho⟩ => ⟨he, ho⟩
theorem Pair.steps (h : Pair w0 w gd gr D E n A G kx) : Calls Tryz.prog 31 #[.pointer (some ⟨gd, 0, none⟩)] w fun e w' => e = .returned (.int .i64 E.trace.length) ∧ Off [] w w' := by
  obtain ⟨G1, h1, -⟩ := h.run; exact dsteps_callE gd n G1 E w h1
theorem Pair.trace (h : Pair w0 w gd gr D E n A G kx) (hn : n ≤ 40000000) : Calls Tryz.prog 34 #[.pointer (some ⟨gd, 0, none⟩)] w fun e w' => ∃ v, e = .returned v ∧ w'.ownsRow w.heap.size 73 3 v E.trace.length (didCells E.trace) ∧ Off [] w w' := by
  obtain ⟨G1, h1, -⟩ := h.run; exact dtrace_callE gd n G1 E w h1 hn
theorem Pair.tree (h : Pair w0 w gd gr D E n A G kx) (hn : n ≤ 40000000) : Calls Tryz.prog 24 #[.pointer (some ⟨gd, 0, none⟩)] w fun e w' => ∃ v, e = .returned v ∧ w'.ownsRow w.heap.size 30 4 v E.tree.length (cellsOf E.tree) ∧ Off [] w w' :=
  (runC_tree h.run hn).mono fun e w' ⟨⟨v, he, hr⟩, _, ho⟩ => ⟨v, he, hr, ho⟩
theorem Pair.rtree (h : Pair w0 w gd gr E E n A G kx) (hf : Fine E m) : Calls Tryz.prog 33 #[.pointer (some ⟨gr, 0, none⟩)] w fun e w' => ∃ v, e = .returned v ∧ w'.ownsRow w.heap.size 30 4 v E.tree.length (cellsOf E.tree) ∧ Off [] w w' := by
  have := r7tree_any gr G (norm E) w h.ref (fun x hx => by
    obtain ⟨m, h1, -⟩ := hf.ok.inode hf.good.names (sortN_mem.1 hx); exact ⟨m, h1⟩) (by
    show (PDisk.sortN E.names).length ≤ _
    rw [sortN_len]; have := hf.ok.nlen; omega)
  rw [norm_tree] at this; exact this
end
end
section
open Go.RowKit Go.Op Go.Maps
theorem eqDid (a b c : ByteArray) (w : World) : (Op.equalIn 10000 73 (.agg #[.string a, .string b, .string c]) (.agg #[.string a, .string b, .string c])).run Tryz.prog w = .ok true w := by
  have u3 := Tryz.underlying9; have a3 := Tryz.isAgg9; have z3 := Tryz.sizeOf9; have hS : Tryz.prog.underlying 73 = some (.struct (Tryz.prog.fieldsOf 73)) := by kernel_rfl
  have hp : Tryz.prog.stoodInHeld 73 = false := by kernel_rfl
  rw [show (10000 : Nat) = 9999 + 1 from rfl, run_equalIn_agg w 9999 73 _ _ hS hp]; simp only [Program.fieldsOf, Tryz.underlying73]
  go_simp
theorem eqNode7 (a : ByteArray) (b : Int) (c : ByteArray) (d : Int) (w : World) : (Op.equalIn 10000 30 (.agg #[.string a, .int .i64 b, .string c, .int .i64 d]) (.agg #[.string a, .int .i64 b, .string c, .int .i64 d])).run Tryz.prog w = .ok true w := by
  have := eqNode ⟨a, b, c, d⟩ ⟨a, b, c, d⟩ w; rw [decide_eq_true rfl] at this; exact this
theorem eqStamp7 (a b c : Int) (w : World) : (Op.equalIn 10000 39 (.agg #[.int .i64 a, .int .i64 b, .int .i64 c]) (.agg #[.int .i64 a, .int .i64 b, .int .i64 c])).run Tryz.prog w = .ok true w := by
  have u3 := Tryz.underlying3; have a3 := Tryz.isAgg3; have z3 := Tryz.sizeOf3; have hS : Tryz.prog.underlying 39 = some (.struct (Tryz.prog.fieldsOf 39)) := by kernel_rfl
  have hp : Tryz.prog.stoodInHeld 39 = false := by kernel_rfl
  rw [show (10000 : Nat) = 9999 + 1 from rfl, run_equalIn_agg w 9999 39 _ _ hS hp]; simp only [Program.fieldsOf, Tryz.underlying39]
  go_simp
theorem did_get7 {l : List DidP} {i : Nat} {x : DidP} (h : l[i]? = some x) (k : Nat) (hk : k < 3) : (didCells l)[i * 3 + k]? = [Value.string x.call, .string x.path, .string x.dest][k]? :=
  flat_get (fun x : DidP => [Value.string x.call, .string x.path, .string x.dest]) 3 (fun _ => rfl) l i k x h hk
set_option maxRecDepth 100000 in
set_option maxHeartbeats 4000000 in
theorem did_same (v1 v2 : Value) (b1 b2 : Nat) (L : List DidP) (w : World) (h1 : w.ownsRow b1 73 3 v1 L.length (didCells L)) (h2 : w.ownsRow b2 73 3 v2 L.length (didCells L)) (hl : L.length ≤ 1000000000) :
    Calls Tryz.prog 41 #[v1, v2] w fun e w' => e = .returned (.bool true) ∧ Off [] w w' := by
  obtain ⟨p1, c1, rfl, hc1, hm1, hr1⟩ := own_at h1; obtain ⟨p2, c2, rfl, hc2, hm2, hr2⟩ := own_at h2; obtain ⟨n, hn⟩ : ∃ n, L.length = n := ⟨_, rfl⟩
  have HN := Lib.hid hn; have HR := Lib.hid (And.intro hr1 hr2); have hgd : Tryz.prog.eqGuardType Tryz.prog.depth 73 = false := by kernel_rfl
  rw [hn] at hc1 hc2 hl ⊢; unfold maxLen at hm1 hm2; clear h1 h2 hr1 hr2 hn
  go_enter Tryz.func41, Tryz.ntmps41
  go_wp2_with fail
  go_loopw [13] (fun x wr => ∃ i : Nat, x = .int .i64 i ∧ i ≤ n ∧ Off [] w wr) (fun x _ => n - (intOf x).toNat)
  case atStart => exact ⟨0, rfl, by omega, Off.refl _ _⟩
  case round =>
    obtain ⟨i, rfl, hi, ho⟩ := hrel; have HO := Lib.hid ho
    by_cases hlt : i < n
    · obtain ⟨x, hx⟩ : ∃ x, L[i]? = some x := ⟨_, List.getElem?_eq_getElem (by rw [HN.out]; exact hlt)⟩
      obtain ⟨g1, rfl, -, hg1, -, k1⟩ := HR.out.1 (by rw [HN.out]; omega); obtain ⟨g2, rfl, -, hg2, -, k2⟩ := HR.out.2 (by rw [HN.out]; omega); have a0 := (ho.cell (p := ⟨g1, i * 3, none⟩) hg1 (by simp)).trans (k1 _ _ (did_get7 hx 0 (by omega))); have a1 := (ho.cell (p := ⟨g1, i * 3 + 1, none⟩) hg1 (by simp)).trans (k1 _ _ (did_get7 hx 1 (by omega)))
      have a2 := (ho.cell (p := ⟨g1, i * 3 + 2, none⟩) hg1 (by simp)).trans (k1 _ _ (did_get7 hx 2 (by omega))); have b0 := (ho.cell (p := ⟨g2, i * 3, none⟩) hg2 (by simp)).trans (k2 _ _ (did_get7 hx 0 (by omega))); have b1 := (ho.cell (p := ⟨g2, i * 3 + 1, none⟩) hg2 (by simp)).trans (k2 _ _ (did_get7 hx 1 (by omega)))
      have b2 := (ho.cell (p := ⟨g2, i * 3 + 2, none⟩) hg2 (by simp)).trans (k2 _ _ (did_get7 hx 2 (by omega))); obtain ⟨xa, xb, xc⟩ := x; dsimp only at a0 a1 a2 b0 b1 b2; have hed := eqDid xa xb xc; have hilt : (i : Int) < n := by omega
      clear hx k1 k2 ho HR
      go_wp2_with fail
      go_region
      all_goals go_wp2_with fail
      all_goals exact ⟨⟨i + 1, by congr 1, by omega, HO.out.drew⟩, by simp only [intOf]; omega⟩
    obtain rfl : i = n := by omega
    go_wp2_with fail
    go_ret
    exact ⟨rfl, HO.out⟩
theorem texts_own7 {w : World} {b1 b2 : Nat} {v1 v2 : Value} {L : List ByteArray} (h1 : w.ownsRow b1 9 1 v1 L.length (L.map Value.string)) (h2 : w.ownsRow b2 9 1 v2 L.length (L.map Value.string)) (hl : L.length ≤ 100000) :
    Calls Tryz.prog 38 #[v1, v2] w fun e w' => e = .returned (.bool true) ∧ Off [] w w' := by
  obtain ⟨p, c, rfl, hp⟩ := own_strs h1; obtain ⟨q, d, rfl, hq⟩ := own_strs h2; have := texts_any L L p q c d w (by omega) (by omega) hp hq; rw [decide_eq_true rfl] at this; exact this
theorem same_own7 {w : World} {b1 b2 : Nat} {v1 v2 : Value} {L : List Node} (h1 : w.ownsRow b1 30 4 v1 L.length (cellsOf L)) (h2 : w.ownsRow b2 30 4 v2 L.length (cellsOf L)) (hl : L.length ≤ 100000) :
    Calls Tryz.prog 32 #[v1, v2] w fun e w' => e = .returned (.bool true) ∧ Off [] w w' := by
  obtain ⟨p, c, rfl, hp, -⟩ := own_row h1; obtain ⟨q, d, rfl, hq, -⟩ := own_row h2; have := rsame_any L L p q c d w (by omega) (by omega) hp hq; rw [decide_eq_true rfl] at this; exact this
theorem check_own7 {w : World} {b1 : Nat} {v1 : Value} {L : List Node} (h1 : w.ownsRow b1 30 4 v1 L.length (cellsOf L)) (hok : okTree L = true) :
    Calls Tryz.prog 40 #[v1] w fun e w' => e = .returned (.int .i64 0) ∧ Off [] w w' := by
  obtain ⟨p, c, rfl, hp, -⟩ := own_row h1; exact rcheck_v p L L.length c w hp rfl (by have := okTree_len hok; omega) (fits1_tree7 hok) 0 (by unfold chkV; rw [hok]; rfl)
theorem ask_names7 (D : PDisk) (c : CallP) : (askE D c).1.names.length ≤ 1001 := by
  have hz : ∀ e : Int, (zeroA e).names.length ≤ 1001 := fun e => by show ([] : List ByteArray).length ≤ 1001; decide
  unfold askE
  split; · exact hz _
  split; · exact hz _
  split; · exact hz _
  split; · exact hz _
  split; · exact hz _
  split; · exact hz _
  split; · exact hz _
  split; · exact hz _
  split; · show ([] : List ByteArray).length ≤ 1001; decide
  split
  · show (D.edited.namesC c.path).1.1.length ≤ 1001
    unfold PDisk.namesC; generalize D.edited.step ⟨#[78, 97, 109, 101, 115]⟩ c.path ⟨#[]⟩ = st; obtain ⟨full, e, E⟩ := st; dsimp only
    split
    · show ([] : List ByteArray).length ≤ 1001; decide
    show (E.namesOn c.path).1.length ≤ 1001
    unfold PDisk.namesOn; dsimp only; generalize (if c.path = ⟨#[]⟩ then (0 : Int) else firstE [PDisk.no c.path, E.gone c.path]) = e
    split
    · simp
    split
    · show (namesR E.tree (str c.path)).length ≤ 1001
      unfold namesR
      split
      · rename_i h
        simp only [Bool.and_eq_true] at h
        have h1 := okTree_len h.1; have h2 := List.length_filter_le (fun n : Node => decide (parent n.p = str c.path)) E.tree; unfold namesOf; rw [List.length_map]; omega
      simp
    simp
  split; · exact hz _
  exact hz _
section
variable {w0 w w' : World} {gd gr n : Nat} {D E : PDisk} {A : RArg} {G : RGeo} {kx : List Nat}
theorem Pair.fresh (h : Pair w0 w gd gr D E n A G kx) {b : Nat} (hb : w.heap.size ≤ b) : b ∉ gr :: G.blocks := fun hm => by
  have := h.lt hm; omega
structure DrI (w0 w : World) (gd gr : Nat) (D : PDisk) (n : Nat) : Prop where
  pair : ∃ A G, Pair w0 w gd gr D D n A G []
  fine : Fine D n
  rd : RdC 262144 D
  slim : Slim D
end
end
section
open Go.RowKit Go.Op Go.Maps
set_option maxRecDepth 100000 in
set_option maxHeartbeats 16000000 in
theorem druns_any (fp : Option Addr) (t : List Node) (n c : Nat) (ap ep : Option Addr) (fs : List FateP) (es : List EditP) (nf fc ne ec : Nat) (cp : Option Addr) (cs : List CallP) (m d : Nat) (w : World) (hR : Row w fp t) (hn : t.length = n) (hc : n ≤ c) (hcm : c ≤ maxLen) (hF : Fits1 t) (hnb2 : n ≤ 1099511627776)
    (hFR : FRow w ap fs) (hnf : fs.length = nf) (hnb : nf ≤ 4398046511103) (hpa : ap = none → fs = []) (hER : ERow w ep es) (hne : es.length = ne) (hnm : ne ≤ 1000000) (hvl : ∀ e ∈ es, e.value.length ≤ 2932031007402 ∧ Fits e.value) (hv1 : ∀ e ∈ es, Fits1 e.value ∧ e.path.size ≤ 1048576) (hcost : costE es ≤ 262144)
    (hC : CRow w cp cs) (hm : cs.length = m) (hmd : m ≤ d) (_hdm : d ≤ maxLen) (hZ : ∀ x ∈ cs, x.path.size ≤ 1048576 ∧ x.to_.size ≤ 1048576 ∧ x.data.size ≤ maxLen) (hT : Tabs w) :
    Calls Tryz.prog 11 #[.slice fp n c, .agg #[.slice ap nf fc, .slice ep ne ec], .slice cp m d] w fun e w' => e = .returned (.bool true) ∧ Off [] w w' := by
  have HT := Lib.hid hT; have HR0 := Lib.hid hR; have HC0 := Lib.hid hC; have HN := Lib.hid hn; have HM := Lib.hid hm; have HZ := Lib.hid hZ; have HFT := Lib.hid hF; have HWE := Lib.hid (And.intro hFR (And.intro hnf (And.intro hpa (And.intro hER (And.intro hne hvl))))); have HV1 := Lib.hid (And.intro hv1 hcost); have HAW := Lib.hid (fun (W : World) (ho : Off [] w W) => dawake_any W (hT.off ho))
  unfold maxLen at hcm; clear hT hR hn hC hm hF hZ hFR hnf hpa hER hne hvl hv1 hcost
  go_enter Tryz.func11, Tryz.ntmps11
  go_upto_region 1 with fail
  refine code_gen (fun W => Blk W w.heap.size 85 #[.slice ap nf fc, .slice ep ne ec] ∧ Off [] w W) ⟨Blk.new w _ _, (Off.refl _ _).alloc _⟩ ?_
  rintro W ⟨hbf, hof⟩; have HBF := Lib.hid hbf; have HOF := Lib.hid hof; clear hbf hof
  go_wp2_with fail
  refine (HAW.out W HOF.out).mono ?_
  rintro e w1 ⟨rfl, ho1⟩; have HB1 := Lib.hid (HBF.out.off ho1 (by simp)); have HO1 := Lib.hid (HOF.out.trans_nil ho1); have HT1 := Lib.hid (HT.out.off HO1.out); clear ho1 HAW HBF HOF
  by_cases hok : okTree t = true
  case neg =>
    have hok : okTree t = false := by simpa using hok
    have HNB := Lib.hid (dnew_bad fp t n c w1 (HR0.out.off HO1.out) HN.out hc (by unfold maxLen; omega) hok HFT.out.fits (HT.out.off HO1.out)); have HNR := Lib.hid (fun (W : World) (ho : Off [] w W) => r7new_bad fp t n c W (HR0.out.off ho) HN.out hnb2 hok HFT.out); clear hok
    go_wp2_with fail
    refine HNB.out.mono ?_
    rintro e w2 ⟨rfl, ho2⟩; have HO2 := Lib.hid (HO1.out.trans_nil ho2); clear ho2
    go_wp2_with fail
    refine (HNR.out _ HO2.out).mono ?_
    rintro e w3 ⟨rfl, ho3⟩; have HO3 := Lib.hid (HO2.out.trans_nil ho3); clear ho3
    go_wp2_with fail
    refine (dwrite_nil _ _ _ _).mono ?_
    rintro e w4 ⟨rfl, ho4⟩; have HO4 := Lib.hid (HO3.out.trans_nil ho4); clear ho4
    go_wp2_with fail
    refine (don_nil _).mono ?_
    rintro e w5 ⟨rfl, ho5⟩; have HO5 := Lib.hid (HO4.out.trans_nil ho5); clear ho5
    go_wp2_with fail
    refine (dsteps_nil _).mono ?_
    rintro e w6 ⟨rfl, ho6⟩; have HO6 := Lib.hid (HO5.out.trans_nil ho6); clear ho6
    go_wp2_with fail
    refine (dtree_nil _).mono ?_
    rintro e w7 ⟨rfl, ho7⟩; have HO7 := Lib.hid (HO6.out.trans_nil ho7); clear ho7
    go_wp2_with fail
    refine (dtrace_nil _).mono ?_
    rintro e w8 ⟨rfl, ho8⟩; have HO8 := Lib.hid (HO7.out.trans_nil ho8); clear ho8
    go_wp2_with fail
    go_ret
    exact ⟨rfl, HO8.out⟩
  have HGN := Lib.hid (And.intro (good_new hok) (And.intro (light_new HFT.out.fits) (Slim.new hok))); have HNEW := Lib.hid (run_new fp t n c w1 w1 (Off.refl _ _) (HT.out.off HO1.out) (HR0.out.off HO1.out) HN.out hc hok HFT.out.fits); have HNR := Lib.hid (fun (W : World) (ho : Off [] w W) => r7new_ok fp t n c W (HR0.out.off ho) HN.out hok HFT.out); clear hok
  go_wp2_with fail
  refine HNEW.out.mono ?_
  rintro e w2 ⟨gd, rfl, hr⟩; have HR2 := Lib.hid hr.e; have HO2 := Lib.hid hr.since; clear hr HNEW
  go_wp2_with fail
  refine (HNR.out _ (HO1.out.trans_nil HO2.out)).mono ?_
  rintro e w3 ⟨gr, G0, rfl, hM3, hgr, hgb, ho3⟩; have HR3 := Lib.hid (HR2.out.more (k' := gr :: G0.blocks) ho3 (fun b hb => by
    rcases List.mem_cons.1 hb with rfl | hb
    · exact ⟨hgr, hM3.blk.lt⟩
    exact ⟨hgb b hb, hM3.lt hb⟩))
  have HM3 := Lib.hid hM3; have HGB := Lib.hid (show ∀ b ∈ gr :: G0.blocks, w1.heap.size ≤ b from fun b hb => by
    have := HO2.out.size
    rcases List.mem_cons.1 hb with rfl | hb
    · omega
    have := hgb b hb; omega)
  have HB3 := Lib.hid (HB1.out.off (HO2.out.trans_nil ho3) (by simp)); have hcf := HB3.out.cell; have HO3 := Lib.hid (HO2.out.trans_nil ho3); clear hM3 hgr hgb ho3 HNR HR2; have HBT := Lib.hid (runE_boot (c := fc) (ce := ec) HR3.out ap ep fs es nf ne (HWE.out.1.off (HO1.out.trans_nil HO3.out)) HWE.out.2.1 hnb HWE.out.2.2.1 (HWE.out.2.2.2.1.off HO1.out) HWE.out.2.2.2.2.1 hnm HWE.out.2.2.2.2.2)
  go_wp2_with fail
  refine HBT.out.mono ?_
  rintro e w4 ⟨rfl, ev, hr, hk4⟩; have HR4 := Lib.hid hr; have HM4 := Lib.hid (HM3.out.kept (fun b hb => hk4 b (List.mem_append_left _ hb))); have hb4 := HB1.out.off hr.since (by simp); have hcf := hb4.cell; clear hr hk4 HBT HR3 HM3 hb4; have HBR := Lib.hid (r7boot_any gr G0 (norm (newD t)) fs es ap ep nf fc ne ec ev w4 HM4.out)
  go_wp2_with fail
  refine HBR.out.mono ?_
  rintro e w5 ⟨rfl, G, hM5, ho5, hgl⟩; obtain ⟨D0, hD0⟩ : ∃ D0, (newD t).bootE fs es ev = D0 := ⟨_, rfl⟩
  have hgb5 : ∀ b ∈ gr :: G.blocks, b ∈ gr :: G0.blocks := fun b hb => by
    rcases List.mem_cons.1 hb with rfl | hb
    · exact List.mem_cons_self ..
    exact List.mem_cons_of_mem _ (hgl b hb)
  have HS0 := Lib.hid (show DrI w1 w5 gd gr D0 0 by
    subst hD0; refine ⟨⟨⟨.slice ap nf fc, .slice ep ne ec⟩, G, (HR4.out.wrote7 HT1.out ho5 (fun b hb => by
      simp at hb
      subst hb
      exact ⟨List.mem_append_left _ (List.mem_cons_self ..), HGB.out _ (List.mem_cons_self ..)⟩) (fun b hb => .inl (List.mem_append_left _ (hgb5 b (by simpa using hb))))), hM5, fun b hb => HGB.out b (hgb5 b hb), ⟨⟨ap, fc, by rw [← HWE.out.2.1]; rfl, HWE.out.1.off HO1.out⟩, ep, ec, by rw [← HWE.out.2.2.2.2.1]; rfl, by show es.length ≤ maxLen; rw [HWE.out.2.2.2.2.1]; unfold maxLen; omega, HWE.out.2.2.2.1.off HO1.out⟩, fun b hb => by cases hb⟩,
      ⟨HR4.out.ok, HGN.out.1.of (HGN.out.1.tree.of rfl rfl rfl (KS.of_inos rfl)) rfl rfl rfl, HGN.out.2.1.same rfl⟩, ⟨⟨HV1.out.2, fun e he => (HV1.out.1 e he).1.fits⟩, HV1.out.1⟩, HGN.out.2.2.boot _ _ _⟩)
  clear hM5 ho5 hgl hgb5 hcf HR4 HM4 HBR HGB hD0 HGN HWE HV1
  go_wp2_with fail
  go_loopw [86] (fun x wr => ∃ (i : Nat) (D : PDisk), x = .int .i64 i ∧ i ≤ m ∧ i ≤ 60 ∧ Hid (DrI w1 wr gd gr D (262146 * i))) (fun x _ => m - (intOf x).toNat)
  case atStart => exact ⟨0, D0, rfl, by omega, by omega, HS0⟩
  case round =>
    clear HS0; obtain ⟨i, D, rfl, hi, hi60, HRW⟩ := hrel; obtain ⟨A, G, hP⟩ := HRW.out.pair; have HP := Lib.hid hP; have HFN := Lib.hid HRW.out.fine; have HRD := Lib.hid HRW.out.rd; have HSL := Lib.hid HRW.out.slim; clear hP HRW
    by_cases hlt : i < m
    · have hil : i < cs.length := by rw [HM.out]; exact hlt
      obtain ⟨a, rfl, hca, hab⟩ := (HC0.out.off (HO1.out.trans_nil HP.out.run.since)).get i hil; have HZX := Lib.hid (HZ.out _ (List.getElem_mem hil)); generalize cs[i] = x at hca HZX; have c0 := hca.what; have c1 := hca.path; have c2 := hca.to_; have c3 := hca.data; have c4 := hca.mode; have hilt : (i : Int) < m := by omega
      have habk : (a.add (i * 5)).block < wr.heap.size := by rw [add_block]; exact hab
      clear hca hab hil
      go_upto_region 14 with fail
      refine code_gen (fun W => Blk W wr.heap.size 77 #[.int .i64 x.what, .string x.path, .string x.to_, .string x.data, .int .i64 x.mode] ∧ Off [] wr W) ⟨Blk.new _ _ _, (Off.refl _ _).alloc _⟩ ?_
      rintro W ⟨hbc, hof⟩; clear c0 c1 c2 c3 c4 habk; have HBC := Lib.hid hbc; have hcc := hbc.cell; have HPB := Lib.hid (HP.out.more (k' := [wr.heap.size]) hof (fun b hb => by simp at hb; subst hb; exact ⟨Nat.le_refl _, hbc.lt⟩)); have HPW := Lib.hid (HP.out.off hof); clear hbc hof HP
      by_cases h60 : i = 60
      · have hq : ((i : Int) == 60) = true := by rw [h60]; rfl
        clear h60 hcc; have HPE := HPW; have hrf := HPE.out.ref.blk.cell; have hrl := HPE.out.ref.blk.lt; unfold refCells at hrf; obtain ⟨ptr, ctr, htr⟩ := row_len HPE.out.ref.trace; obtain ⟨TL, hTL⟩ : ∃ TL, D.trace.length = TL := ⟨_, rfl⟩
        have htr : G.tv = .slice ptr TL ctr := by rw [← hTL]; exact htr
        rw [htr] at hrf; have HTV := Lib.hid htr; have HTL := Lib.hid hTL; have hs7 : W.cell? ⟨gr, 7, none⟩ = some (.slice ptr TL ctr) := hrf 7
        have HTRC := Lib.hid (fun (W' : World) (ho : Off [] W W') => (HPE.out.off ho).trace (by omega)); have SK := Lib.hid (show ∀ W', Off [] W W' → W'.cell? ⟨gr, 7, none⟩ = some (.slice ptr TL ctr) from fun W' h => (h.cell (p := ⟨gr, 7, none⟩) hrl (by simp)).trans hs7); have HRT := Lib.hid (show W.ownsRow 0 73 3 (.slice ptr TL ctr) D.trace.length (didCells D.trace) from by
          have := HPE.out.ref.trace; rw [HTV.out] at this; exact this)
        have HTB := Lib.hid (show D.trace.length ≤ 1000000000 from by have := HFN.out.ok.tlen; omega); clear htr hTL hrf hs7
        go_wp2_with fail
        have hch := Off.refl [] W.drew
        go_region_held3 (fun w' => w'.cell? ⟨gr, 7, none⟩ = some (.slice ptr TL ctr)) (first | assumption | exact SK.out _ ((Off.refl [] W).drew.trans_nil hch)) (first
          | (go_at_call 34; refine (HTRC.out _ ((Off.refl [] W).drew.trans_nil hch)).mono ?_; rintro e' wA ⟨vt, rfl, hrow, hoA⟩; have hch := hch.trans_nil hoA)
          | (go_at_call 41; refine (did_same _ _ _ _ D.trace _ hrow (own_offk (k := []) HRT.out ((Off.refl [] W).drew.trans_nil hch) (by simp)) HTB.out).mono ?_; rintro e' wB ⟨rfl, hoB⟩; have hch := hch.trans_nil hoB))
        all_goals go_wp2_with fail
        all_goals go_ret
        all_goals exact ⟨rfl, HO1.out.trans_nil (HPE.out.run.since.trans_nil ((Off.refl [] W).drew.trans_nil hch))⟩
      have hq : ((i : Int) == 60) = false := beq_eq_false_iff_ne.2 (by omega)
      have hi59 : i ≤ 59 := by omega
      clear HPW h60; have HASK := Lib.hid (pair_ask HPB.out HFN.out HRD.out.edc (by omega) x (by have := HZX.out.1; omega) (by have := HZX.out.2.1; omega)); have HLN := Lib.hid (ask_names7 D x); have HR0X := Lib.hid (show Ref0 262144 D (262146 * i) from ⟨HFN.out, HRD.out, HSL.out, by omega⟩); have HNX := Lib.hid (And.intro (rdC_ask HRD.out x) (slim_askE HSL.out x))
      obtain ⟨E, hE⟩ : ∃ E, (askE D x).2 = E := ⟨_, rfl⟩
      have HE := Lib.hid hE; rw [hE] at HASK HNX; have HWANT := Lib.hid (fun (W' : World) (hp : Pair w1 W' gd gr D E (262146 * i + 262144 + 2) A G ([wr.heap.size] ++ [])) => pair_want hp HT1.out HR0X.out x HE.out (by have := HZX.out.1; omega) (by have := HZX.out.2.1; omega))
      obtain ⟨err, nd, sino, ssz, stm, NL, hans⟩ : ∃ err nd sino ssz stm NL, (askE D x).1 = ⟨err, nd, sino, ssz, stm, NL⟩ := ⟨_, _, _, _, _, _, rfl⟩
      rw [hans] at HASK HWANT HLN; have HLN := Lib.hid (show NL.length ≤ 1001 from HLN.out); clear hE hans
      go_wp2_with fail
      refine HASK.out.mono ?_
      rintro e w4 ⟨⟨va, rfl, hva⟩, hp, hk⟩; have HB4 := Lib.hid (hk.blk HBC.out (by simp)); have HP4 := Lib.hid hp; have HVA := Lib.hid hva; have HVF := Lib.hid (show ∀ b ∈ va.ownBlock.toList, b ∉ gr :: G.blocks from fun b hb => HPB.out.fresh (own_made7 hva b hb)); have hcc := HB4.out.cell; clear hp hk hva HASK HBC
      go_upto_region 16 with fail
      refine code_gen (fun W5 => Blk W5 w4.heap.size 30 #[.string nd.path, .int .i64 nd.kind, .string nd.data, .int .i64 nd.mode] ∧ Blk W5 (w4.heap.size + 1) 39 #[.int .i64 sino, .int .i64 ssz, .int .i64 stm] ∧ Off [] w4 W5) ⟨(Blk.new w4 _ _).alloc _, Blk.new1 w4 _ _ _, ((Off.refl _ _).alloc _).alloc _⟩ ?_
      clear hcc; rintro W5 ⟨hbn, hbs, ho5⟩; have HP5 := Lib.hid (HP4.out.off ho5); have HB5 := Lib.hid (HB4.out.off ho5 (by simp)); have HVA5 := Lib.hid (own_offk (k := []) HVA.out ho5 (by simp)); have HN5 := Lib.hid hbn; have HS5 := Lib.hid hbs; have HNF := Lib.hid (And.intro (HP4.out.fresh (Nat.le_refl _)) (HP4.out.fresh (Nat.le_succ _))); have hcc := HB5.out.cell
      obtain ⟨ga, hga⟩ : ∃ ga, w4.heap.size = ga := ⟨_, rfl⟩
      rw [hga] at HN5 HS5 HNF; rw [hga]; clear hbn hbs ho5 HB4 HVA hga HP4
      go_wp2_with fail
      refine (HWANT.out _ HP5.out).mono ?_
      rintro e w6 ⟨⟨vb, rfl, hvb⟩, ⟨A', G', hp6⟩, ho6⟩; have HP6 := Lib.hid hp6; have HN6 := Lib.hid (HN5.out.off ho6 HNF.out.1); have HS6 := Lib.hid (HS5.out.off ho6 HNF.out.2); have HVA6 := Lib.hid (own_offk HVA5.out ho6 HVF.out); have HVB6 := Lib.hid hvb; clear hp6 hvb ho6 hcc HN5 HS5 HVA5 HVF HNF HP5 HB5 HWANT
      go_upto_region 17 with fail
      refine code_gen (fun W7 => Blk W7 w6.heap.size 30 #[.string nd.path, .int .i64 nd.kind, .string nd.data, .int .i64 nd.mode] ∧ Blk W7 (w6.heap.size + 1) 39 #[.int .i64 sino, .int .i64 ssz, .int .i64 stm] ∧ Off [] w6 W7) ⟨(Blk.new w6 _ _).alloc _, Blk.new1 w6 _ _ _, ((Off.refl _ _).alloc _).alloc _⟩ ?_
      rintro W7 ⟨hbn, hbs, ho7⟩; have HP7 := Lib.hid ((HP6.out.off ho7).drop (k' := []) (fun b hb => by cases hb)); have HN7 := Lib.hid (HN6.out.off ho7 (by simp)); have HS7 := Lib.hid (HS6.out.off ho7 (by simp)); have HVA7 := Lib.hid (own_offk (k := []) HVA6.out ho7 (by simp)); have HVB7 := Lib.hid (own_offk (k := []) HVB6.out ho7 (by simp)); have HM7 := Lib.hid hbn; have HT7 := Lib.hid hbs
      obtain ⟨gb, hgb⟩ : ∃ gb, w6.heap.size = gb := ⟨_, rfl⟩
      rw [hgb] at HM7 HT7; rw [hgb]; clear hbn hbs ho7 HN6 HS6 HVA6 HVB6 hgb HP6; have HTRE := Lib.hid (HP7.out.tree (by omega)); have HFE := Lib.hid (show Fine E (262146 * (i + 1)) from by
        have h1 := fineC_ask HFN.out HRD.out.edc x (m := 262146 * (i + 1)) HZX.out.2.2 (by have := HZX.out.2.1; unfold maxLen; omega) (by
          rw [HE.out]; exact PDisk.ok_mono HP7.out.run.ok (by omega))
        rw [HE.out] at h1; exact h1)
      have HOE := Lib.hid (tree_ok HFE.out HNX.out.2); obtain ⟨T, hTT⟩ : ∃ T, E.tree = T := ⟨_, rfl⟩
      have HRTR := Lib.hid (fun (W : World) (ho : Off [] W7 W) => (HP7.out.off ho).rtree HFE.out); rw [hTT] at HTRE HOE HRTR; obtain ⟨tl, htl⟩ : ∃ tl, T.length = tl := ⟨_, rfl⟩
      have HTLL := Lib.hid htl; have htl1 : tl ≤ 1000 := by rw [← htl]; exact okTree_len HOE.out
      clear hTT htl
      go_wp2_with fail
      refine HTRE.out.mono ?_
      rintro e w8 ⟨vn, rfl, hvn, ho8⟩; have HP8 := Lib.hid (HP7.out.more (k' := vn.ownBlock.toList) ho8 (own_made hvn)); have HN8 := Lib.hid (HN7.out.off ho8 (by simp)); have HS8 := Lib.hid (HS7.out.off ho8 (by simp)); have HM8 := Lib.hid (HM7.out.off ho8 (by simp)); have HT8 := Lib.hid (HT7.out.off ho8 (by simp)); have HVA8 := Lib.hid (own_offk (k := []) HVA7.out ho8 (by simp))
      have HVB8 := Lib.hid (own_offk (k := []) HVB7.out ho8 (by simp)); have HVN8 := Lib.hid hvn; have HO8 := Lib.hid ho8; have HVNB := Lib.hid (show w1.heap.size ≤ W7.heap.size from HP7.out.run.since.size); clear hvn ho8 HTRE HN7 HS7 HM7 HT7 HVA7 HVB7; have hN := HN8.out.cell; have hNl := HN8.out.lt; have hS := HS8.out.cell; have hSl := HS8.out.lt; have hM := HM8.out.cell
      have hMl := HM8.out.lt; have hTc := HT8.out.cell; have hTl := HT8.out.lt; have hrf := HP8.out.ref.blk.cell; have hrl := HP8.out.ref.blk.lt; unfold refCells at hrf; have hr4 : w8.cell? ⟨gr, 4, none⟩ = some (.bool E.off) := hrf 4
      have hr5 : w8.cell? ⟨gr, 5, none⟩ = some (.int .i64 E.trace.length) := hrf 5
      obtain ⟨eo, heo⟩ : ∃ eo, E.off = eo := ⟨_, rfl⟩
      obtain ⟨et, het⟩ : ∃ et, E.trace.length = et := ⟨_, rfl⟩
      rw [heo] at hr4; rw [het] at hr5; have HTX := Lib.hid (fun (W' : World) (ho : Off [] w8 W') => texts_own7 (own_offk (k := []) HVA8.out ho (by simp)) (own_offk (k := []) HVB8.out ho (by simp)) (by have := HLN.out; omega)); have HON := Lib.hid (fun (W' : World) (ho : Off [] w8 W') => (HP8.out.off ho).on)
      have HSTP := Lib.hid (fun (W' : World) (ho : Off [] w8 W') => (HP8.out.off ho).steps); have HRT8 := Lib.hid (fun (W' : World) (ho : Off [] w8 W') => HRTR.out W' (HO8.out.trans_nil ho)); rw [heo] at HON; rw [het] at HSTP; clear hrf heo het; have hen := eqNode7 nd.path nd.kind nd.data nd.mode; have hes := eqStamp7 sino ssz stm
      have hgn : Tryz.prog.eqGuardType Tryz.prog.depth 30 = false := by kernel_rfl
      have hgs : Tryz.prog.eqGuardType Tryz.prog.depth 39 = false := by kernel_rfl
      have hnb9 : ((!eo) == eo) = false := by cases eo <;> rfl
      have hvn := HVN8.out; rw [HTLL.out] at hvn; obtain ⟨pn, cn, rfl, hnc, hnm2, -⟩ := own_at hvn; unfold maxLen at hnm2
      have HS := Lib.hid (show ∀ W', Off [] w8 W' → W'.cell? ⟨ga, 0, none⟩ = some (.string nd.path) ∧ W'.cell? ⟨ga, 1, none⟩ = some (.int .i64 nd.kind) ∧ W'.cell? ⟨ga, 2, none⟩ = some (.string nd.data) ∧ W'.cell? ⟨ga, 3, none⟩ = some (.int .i64 nd.mode) ∧ W'.cell? ⟨ga + 1, 0, none⟩ = some (.int .i64 sino) ∧ W'.cell? ⟨ga + 1, 1, none⟩ = some (.int .i64 ssz) ∧ W'.cell? ⟨ga + 1, 2, none⟩ = some (.int .i64 stm) ∧ W'.cell? ⟨gb, 0, none⟩ = some (.string nd.path) ∧ W'.cell? ⟨gb, 1, none⟩ = some (.int .i64 nd.kind) ∧ W'.cell? ⟨gb, 2, none⟩ = some (.string nd.data) ∧ W'.cell? ⟨gb, 3, none⟩ = some (.int .i64 nd.mode) ∧ W'.cell? ⟨gb + 1, 0, none⟩ = some (.int .i64 sino) ∧ W'.cell? ⟨gb + 1, 1, none⟩ = some (.int .i64 ssz) ∧ W'.cell? ⟨gb + 1, 2, none⟩ = some (.int .i64 stm) ∧ W'.cell? ⟨gr, 4, none⟩ = some (.bool eo) ∧ W'.cell? ⟨gr, 5, none⟩ = some (.int .i64 et) from fun W' ho =>
        ⟨(ho.cell (p := ⟨ga, 0, none⟩) hNl (by simp)).trans (hN 0), (ho.cell (p := ⟨ga, 1, none⟩) hNl (by simp)).trans (hN 1), (ho.cell (p := ⟨ga, 2, none⟩) hNl (by simp)).trans (hN 2), (ho.cell (p := ⟨ga, 3, none⟩) hNl (by simp)).trans (hN 3),
         (ho.cell (p := ⟨ga + 1, 0, none⟩) hSl (by simp)).trans (hS 0), (ho.cell (p := ⟨ga + 1, 1, none⟩) hSl (by simp)).trans (hS 1), (ho.cell (p := ⟨ga + 1, 2, none⟩) hSl (by simp)).trans (hS 2),
         (ho.cell (p := ⟨gb, 0, none⟩) hMl (by simp)).trans (hM 0), (ho.cell (p := ⟨gb, 1, none⟩) hMl (by simp)).trans (hM 1), (ho.cell (p := ⟨gb, 2, none⟩) hMl (by simp)).trans (hM 2), (ho.cell (p := ⟨gb, 3, none⟩) hMl (by simp)).trans (hM 3),
         (ho.cell (p := ⟨gb + 1, 0, none⟩) hTl (by simp)).trans (hTc 0), (ho.cell (p := ⟨gb + 1, 1, none⟩) hTl (by simp)).trans (hTc 1), (ho.cell (p := ⟨gb + 1, 2, none⟩) hTl (by simp)).trans (hTc 2),
         (ho.cell (p := ⟨gr, 4, none⟩) hrl (by simp)).trans hr4, (ho.cell (p := ⟨gr, 5, none⟩) hrl (by simp)).trans hr5⟩)
      clear hN hNl hS hSl hM hMl hTc hTl hr4 hr5 hrl hvn
      go_wp2_with fail
      go_cut [159] from 111 to 159 (fun a wx => a = .bool false ∧ Off [] w8 wx)
      case first =>
        have hch := Off.refl [] w8.drew
        go_region_held3 (fun W' => W'.cell? ⟨ga, 0, none⟩ = some (.string nd.path) ∧ W'.cell? ⟨ga, 1, none⟩ = some (.int .i64 nd.kind) ∧ W'.cell? ⟨ga, 2, none⟩ = some (.string nd.data) ∧ W'.cell? ⟨ga, 3, none⟩ = some (.int .i64 nd.mode) ∧ W'.cell? ⟨ga + 1, 0, none⟩ = some (.int .i64 sino) ∧ W'.cell? ⟨ga + 1, 1, none⟩ = some (.int .i64 ssz) ∧ W'.cell? ⟨ga + 1, 2, none⟩ = some (.int .i64 stm) ∧ W'.cell? ⟨gb, 0, none⟩ = some (.string nd.path) ∧ W'.cell? ⟨gb, 1, none⟩ = some (.int .i64 nd.kind) ∧ W'.cell? ⟨gb, 2, none⟩ = some (.string nd.data) ∧ W'.cell? ⟨gb, 3, none⟩ = some (.int .i64 nd.mode) ∧ W'.cell? ⟨gb + 1, 0, none⟩ = some (.int .i64 sino) ∧ W'.cell? ⟨gb + 1, 1, none⟩ = some (.int .i64 ssz) ∧ W'.cell? ⟨gb + 1, 2, none⟩ = some (.int .i64 stm) ∧ W'.cell? ⟨gr, 4, none⟩ = some (.bool eo) ∧ W'.cell? ⟨gr, 5, none⟩ = some (.int .i64 et)) (first | assumption | exact HS.out _ ((Off.refl [] w8).drew.trans_nil hch)) (first
          | (go_at_call 38; refine (HTX.out _ ((Off.refl [] w8).drew.trans_nil hch)).mono ?_; rintro e' wA ⟨rfl, hoA⟩; have hch := hch.trans_nil hoA)
          | (go_at_call 36; refine (HON.out _ ((Off.refl [] w8).drew.trans_nil hch)).mono ?_; rintro e' wA ⟨rfl, hoA⟩; have hch := hch.trans_nil hoA)
          | (go_at_call 31; refine (HSTP.out _ ((Off.refl [] w8).drew.trans_nil hch)).mono ?_; rintro e' wA ⟨rfl, hoA⟩; have hch := hch.trans_nil hoA)
          | (go_at_call 33; refine (HRT8.out _ ((Off.refl [] w8).drew.trans_nil hch)).mono ?_; rintro e' wA ⟨vr, rfl, hvr, hoA⟩; have hch := hch.trans_nil hoA)
          | (go_at_call 32; refine (same_own7 (own_offk (k := []) HVN8.out ((Off.refl [] w8).drew.trans_nil hch) (by simp)) hvr (by rw [HTLL.out]; omega)).mono ?_; rintro e' wA ⟨rfl, hoA⟩; have hch := hch.trans_nil hoA)
          | (go_at_call 40; refine (check_own7 (own_offk (k := []) HVN8.out ((Off.refl [] w8).drew.trans_nil hch) (by simp)) HOE.out).mono ?_; rintro e' wA ⟨rfl, hoA⟩; have hch := hch.trans_nil hoA))
        all_goals go_wp2_with fail
        all_goals go_meet
        all_goals exact ⟨rfl, (Off.refl [] w8).drew.trans_nil hch⟩
      obtain ⟨rfl, ho9⟩ := hcut; have HP12 := Lib.hid (HP8.out.off ho9); have hvn := own_offk (k := []) HVN8.out ho9 (by simp); rw [HTLL.out] at hvn; clear ho9 HP8 HVN8 HVA8 HVB8 HN8 HS8 HM8 HT8 HTX HON HSTP HRT8 HS hen hes hgn hgs hnb9; have HVW := Lib.hid hvn; have HPX := Lib.hid HP12.out; clear hvn
      go_wp2_with fail
      go_loopw [162] (fun y wq => ∃ k : Nat, y = .int .i64 k ∧ k ≤ tl ∧ Hid (Pair w1 wq gd gr E E (262146 * i + 262144 + 2) A' G' ((Value.slice pn tl cn).ownBlock.toList ++ [])) ∧ Hid (∃ xs, wq.ownsRow W7.heap.size 30 4 (.slice pn tl cn) tl xs)) (fun y _ => tl - (intOf y).toNat)
      case atStart => exact ⟨0, rfl, by omega, HPX, Lib.hid ⟨_, HVW.out⟩⟩
      case round =>
        clear HPX HVW HP12; obtain ⟨k, rfl, hk, HPQ, HXQ⟩ := hrel
        by_cases hkt : k < tl
        · obtain ⟨xs, hxs⟩ := HXQ.out
          obtain ⟨p2, c2, hv2, -, -, hr2⟩ := own_at hxs; obtain ⟨g, hpg, hgb, hgl, -, -⟩ := hr2 (by omega); obtain ⟨rfl, rfl⟩ : pn = p2 ∧ cn = c2 := by simpa using hv2
          subst hpg; have hxl := hxs.1; have x1 := own_cell2 hxs (j := k * 4 + 1) (u := xs[k * 4 + 1]'(by omega)) (List.getElem?_eq_getElem (by omega)); have f1 := own_frozen2 hxs; have hr1 := own_set2 hxs (k * 4 + 1) (.int .i64 9); have HR1 := Lib.hid hr1; have hktI : (k : Int) < tl := by omega
          have HPN := Lib.hid (HPQ.out.wrote (l := [g]) HT1.out ((Off.refl [g] wr).setCell (p := ⟨g, k * 4 + 1, none⟩) (.inr (by simp)) (.int .i64 9)) (fun b hb => by
            simp at hb
            subst hb; exact ⟨by simp [Value.ownBlock], Nat.le_trans HVNB.out hgb⟩))
          clear hxs hr1 hv2 hr2 HPQ HXQ
          go_wp2_with fail
          exact ⟨⟨k + 1, by congr 1, by omega, HPN, Lib.hid ⟨_, HR1.out⟩⟩, by simp only [intOf]; omega⟩
        obtain rfl : k = tl := by omega
        go_wp2_with fail
        exact ⟨⟨i + 1, E, by congr 1, by omega, by omega, Lib.hid ⟨⟨A', G', (HPQ.out.drop (fun b hb => by cases hb)).le (by omega)⟩, HFE.out, HNX.out.1, HNX.out.2⟩⟩, by simp only [intOf]; omega⟩
    obtain rfl : i = m := by omega
    have HPW := HP; have HPE := HPW; have hrf := HPE.out.ref.blk.cell; have hrl := HPE.out.ref.blk.lt; unfold refCells at hrf; obtain ⟨ptr, ctr, htr⟩ := row_len HPE.out.ref.trace; obtain ⟨TL, hTL⟩ : ∃ TL, D.trace.length = TL := ⟨_, rfl⟩
    have htr : G.tv = .slice ptr TL ctr := by rw [← hTL]; exact htr
    rw [htr] at hrf; have HTV := Lib.hid htr; have HTL := Lib.hid hTL; have hs7 : wr.cell? ⟨gr, 7, none⟩ = some (.slice ptr TL ctr) := hrf 7
    have HTRC := Lib.hid (fun (W' : World) (ho : Off [] wr W') => (HPE.out.off ho).trace (by omega)); have SK := Lib.hid (show ∀ W', Off [] wr W' → W'.cell? ⟨gr, 7, none⟩ = some (.slice ptr TL ctr) from fun W' h => (h.cell (p := ⟨gr, 7, none⟩) hrl (by simp)).trans hs7); have HRT := Lib.hid (show wr.ownsRow 0 73 3 (.slice ptr TL ctr) D.trace.length (didCells D.trace) from by
      have := HPE.out.ref.trace; rw [HTV.out] at this; exact this)
    have HTB := Lib.hid (show D.trace.length ≤ 1000000000 from by have := HFN.out.ok.tlen; omega); clear htr hTL hrf hs7
    go_wp2_with fail
    have hch := Off.refl [] wr.drew
    go_region_held3 (fun w' => w'.cell? ⟨gr, 7, none⟩ = some (.slice ptr TL ctr)) (first | assumption | exact SK.out _ ((Off.refl [] wr).drew.trans_nil hch)) (first
      | (go_at_call 34; refine (HTRC.out _ ((Off.refl [] wr).drew.trans_nil hch)).mono ?_; rintro e' wA ⟨vt, rfl, hrow, hoA⟩; have hch := hch.trans_nil hoA)
      | (go_at_call 41; refine (did_same _ _ _ _ D.trace _ hrow (own_offk (k := []) HRT.out ((Off.refl [] wr).drew.trans_nil hch) (by simp)) HTB.out).mono ?_; rintro e' wB ⟨rfl, hoB⟩; have hch := hch.trans_nil hoB))
    all_goals go_wp2_with fail
    all_goals go_ret
    all_goals exact ⟨rfl, HO1.out.trans_nil (HPE.out.run.since.trans_nil ((Off.refl [] wr).drew.trans_nil hch))⟩
end
end Go.Proofs.YtgcfkljooabjjaaGreatDoor
