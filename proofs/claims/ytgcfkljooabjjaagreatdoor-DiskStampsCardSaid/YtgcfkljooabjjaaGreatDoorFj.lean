/- Texts of this claim, one behind the other: Store SaveLaw StoreLaw StoreLaw2 SAwake. Conditions: what each lemma states. -/
import Derived.Test.YtgcfkljooabjjaaGreatDoorFg
import Derived.Test.YtgcfkljooabjjaaGreatDoorFi
/- store.Beside, until, Save and its closures, Load, Clear and its closure: the walks. Conditions: what each contract states. -/
namespace Go.Proofs.YtgcfkljooabjjaaGreatDoor
open Go.RowKit Go.Op Go.Maps

def besideP (path : ByteArray) : ByteArray := path ++ (⟨#[126]⟩ : ByteArray)
def PDisk.save (D : PDisk) (path text : ByteArray) : Int × PDisk :=
  let r1 := D.write (besideP path) text 384
  if r1.1 ≠ 0 then r1 else
    let r2 := r1.2.sync (besideP path)
    if r2.1 ≠ 0 then r2 else
      let r3 := r2.2.replace (besideP path) path
      if r3.1 ≠ 0 then r3 else r3.2.flush
def PDisk.clear (D : PDisk) (path : ByteArray) : Int × PDisk :=
  let r1 := D.remove path
  if r1.1 = 74 then (0, r1.2) else if r1.1 ≠ 0 then r1 else
    let r2 := r1.2.flush
    if r2.1 = 74 then (0, r2.2) else r2
/-- what Load hands back: the text, is it there?, the error -/
def PDisk.load (D : PDisk) (path : ByteArray) : (ByteArray × Bool × Int) × PDisk :=
  let r := D.get path
  if r.1.1 = 74 then ((⟨#[]⟩, false, 0), r.2) else if r.1.1 ≠ 0 then ((⟨#[]⟩, false, r.1.1), r.2) else
    if r.1.2.1.kind ≠ 1 then ((⟨#[]⟩, false, 73), r.2) else ((r.1.2.1.data, true, 0), r.2)
theorem beside_size (path : ByteArray) : (besideP path).size = path.size + 1 := by
  unfold besideP
  rw [ByteArray.size_append]
  rfl
set_option maxRecDepth 100000 in
theorem beside_any (path : ByteArray) (w : World) (hs : path.size ≤ 1000000) : Calls Tryz.prog 57 #[.string path] w fun e w' => e = .returned (.string (besideP path)) ∧ Off [] w w' := by
  unfold besideP
  go_enter Tryz.func57, Tryz.ntmps57
  go_wp2_with fail
  go_ret
  exact ⟨rfl, Off.refl _ _⟩
set_option maxRecDepth 100000 in
set_option maxHeartbeats 4000000 in
/-- one step behind the other, till one has an error -/
theorem until_any (g n c : Nat) (fs : List (FuncId × Array Value × Array Value)) (P : Nat → World → Prop) (Q : Int → World → Prop) (w : World) (hn : fs.length = n) (hb : n ≤ 1000) (h0 : P 0 w)
    (hcell : ∀ i W, P i W → g < W.heap.size ∧ ∀ (j : Nat) f, fs[j]? = some f → W.cell? ⟨g, j, none⟩ = some (.func (.func f.1) f.2.1 f.2.2))
    (hstep : ∀ (i : Nat) f W, fs[i]? = some f → P i W → Calls Tryz.prog f.1 (f.2.1 ++ f.2.2) W fun e w' => ∃ v : Int, e = .returned (.int .i64 v) ∧ (v = 0 → P (i + 1) w') ∧ (v ≠ 0 → Q v w'))
    (hend : ∀ W, P n W → Q 0 W) (en : ∀ f ∈ fs, ∀ args w, (callFunc f.1 args).run Tryz.prog w = .ok (.enter f.1 args) w) :
    Calls Tryz.prog 58 #[.slice (some ⟨g, 0, none⟩) n c] w fun e w' => ∃ v : Int, e = .returned (.int .i64 v) ∧ Q v w' := by
  have HN := Lib.hid hn
  have HC := Lib.hid hcell
  have HST := Lib.hid hstep
  have HE := Lib.hid hend
  have HEN := Lib.hid en
  have H0 := Lib.hid h0
  clear hn hcell hstep hend en h0
  go_enter Tryz.func58, Tryz.ntmps58
  go_wp2_with fail
  go_loopw [8] (fun x wr => ∃ i : Nat, x = .int .i64 i ∧ i ≤ n ∧ Hid (P i wr)) (fun x _ => n - (intOf x).toNat)
  case atStart => exact ⟨0, rfl, by omega, H0⟩
  case round =>
    obtain ⟨i, rfl, hi, HP⟩ := hrel
    by_cases hlt : i < n
    · have hil : i < fs.length := by rw [HN.out]; exact hlt
      obtain ⟨f, hf⟩ : ∃ f, fs[i]? = some f := ⟨_, List.getElem?_eq_getElem hil⟩
      obtain ⟨hg, hcs⟩ := HC.out i wr HP.out
      have hc := hcs i f hf
      have en := HEN.out f (List.mem_of_getElem? hf)
      have HS := Lib.hid (HST.out i f wr hf HP.out)
      obtain ⟨fn, bd, cp⟩ := f
      have hilt : (i : Int) < n := by omega
      dsimp only at hc en HS
      clear hf hcs
      go_wp2_with fail
      refine HS.out.mono ?_
      rintro e w2 ⟨v, rfl, hz, hnz⟩
      by_cases hv : v = 0
      · subst hv
        have HP2 := Lib.hid (hz rfl)
        clear hz hnz hc en
        go_wp2_with fail
        exact ⟨⟨i + 1, by congr 1, by omega, HP2⟩, by simp only [intOf]; omega⟩
      · have HQ := Lib.hid (hnz hv)
        have hne : (v == 0) = false := beq_eq_false_iff_ne.2 hv
        clear hz hnz hv hc en
        go_wp2_with fail
        go_ret
        exact ⟨v, rfl, HQ.out⟩
    · obtain rfl : i = n := by omega
      go_wp2_with fail
      go_ret
      exact ⟨0, rfl, HE.out _ HP.out⟩
/-! ### the closures -/
section
variable (p n gd gb gt : Nat) (G : Geo) (D : PDisk) (W : World)
set_option maxRecDepth 100000 in
theorem save1_any (b text : ByteArray) (h : DS W p G D n) (hn : n ≤ 1000000) (hs : b.size ≤ 1000000) (hd : Blk W gd 25 #[.pointer (some ⟨p, 0, none⟩)]) (hb : Blk W gb 9 #[.string b]) (ht : Blk W gt 9 #[.string text]) :
    Calls Tryz.prog 59 #[.pointer (some ⟨gd, 0, none⟩), .pointer (some ⟨gb, 0, none⟩), .pointer (some ⟨gt, 0, none⟩)] W fun e w' => e = .returned (.int .i64 (D.write b text 384).1) ∧ DSTo W p G.parts w' (D.write b text 384).2 (n + 2) := by
  have HC := Lib.hid (dwrite_call p n G D b text 384 W h hn (by omega))
  have hc1 := hd.cell
  have hc2 := hb.cell
  have hc3 := ht.cell
  have hl1 := hd.lt
  have hl2 := hb.lt
  have hl3 := ht.lt
  clear h hd hb ht
  go_enter Tryz.func59, Tryz.ntmps59
  go_wp2_with fail
  refine HC.out.mono ?_
  rintro e w2 ⟨rfl, hT⟩
  have HT := Lib.hid hT
  clear hT
  go_wp2_with fail
  go_ret
  exact ⟨rfl, HT.out⟩
set_option maxRecDepth 100000 in
theorem save2_any (b : ByteArray) (h : DS W p G D n) (hn : n ≤ 1000000) (hs : b.size ≤ 1000000) (hd : Blk W gd 25 #[.pointer (some ⟨p, 0, none⟩)]) (hb : Blk W gb 9 #[.string b]) :
    Calls Tryz.prog 60 #[.pointer (some ⟨gd, 0, none⟩), .pointer (some ⟨gb, 0, none⟩)] W fun e w' => e = .returned (.int .i64 (D.sync b).1) ∧ DSTo W p G.parts w' (D.sync b).2 (n + 2) := by
  have HC := Lib.hid (dsync_call p n G D b W h hn (by omega))
  have hc1 := hd.cell
  have hc2 := hb.cell
  have hl1 := hd.lt
  have hl2 := hb.lt
  clear h hd hb
  go_enter Tryz.func60, Tryz.ntmps60
  go_wp2_with fail
  refine HC.out.mono ?_
  rintro e w2 ⟨rfl, hT⟩
  have HT := Lib.hid hT
  clear hT
  go_wp2_with fail
  go_ret
  exact ⟨rfl, HT.out⟩
set_option maxRecDepth 100000 in
theorem save3_any (b path : ByteArray) (h : DS W p G D n) (hn : n ≤ 1000000) (hs : b.size ≤ 1000000) (hp : path.size ≤ 1000000) (hd : Blk W gd 25 #[.pointer (some ⟨p, 0, none⟩)]) (hb : Blk W gb 9 #[.string b]) (ht : Blk W gt 9 #[.string path]) :
    Calls Tryz.prog 61 #[.pointer (some ⟨gd, 0, none⟩), .pointer (some ⟨gb, 0, none⟩), .pointer (some ⟨gt, 0, none⟩)] W fun e w' => e = .returned (.int .i64 (D.replace b path).1) ∧ DSTo W p G.parts w' (D.replace b path).2 (n + 2) := by
  have HC := Lib.hid (dreplace_call p n G D b path W h hn (by omega) (by omega))
  have hc1 := hd.cell
  have hc2 := hb.cell
  have hc3 := ht.cell
  have hl1 := hd.lt
  have hl2 := hb.lt
  have hl3 := ht.lt
  clear h hd hb ht
  go_enter Tryz.func61, Tryz.ntmps61
  go_wp2_with fail
  refine HC.out.mono ?_
  rintro e w2 ⟨rfl, hT⟩
  have HT := Lib.hid hT
  clear hT
  go_wp2_with fail
  go_ret
  exact ⟨rfl, HT.out⟩
set_option maxRecDepth 100000 in
theorem clear1_any (path : ByteArray) (h : DS W p G D n) (hn : n ≤ 1000000) (hs : path.size ≤ 1000000) (hd : Blk W gd 25 #[.pointer (some ⟨p, 0, none⟩)]) (hb : Blk W gb 9 #[.string path]) :
    Calls Tryz.prog 63 #[.pointer (some ⟨gd, 0, none⟩), .pointer (some ⟨gb, 0, none⟩)] W fun e w' => e = .returned (.int .i64 (D.remove path).1) ∧ DSTo W p G.parts w' (D.remove path).2 (n + 2) := by
  have HC := Lib.hid (dremove_call p n G D path W h hn (by omega))
  have hc1 := hd.cell
  have hc2 := hb.cell
  have hl1 := hd.lt
  have hl2 := hb.lt
  clear h hd hb
  go_enter Tryz.func63, Tryz.ntmps63
  go_wp2_with fail
  refine HC.out.mono ?_
  rintro e w2 ⟨rfl, hT⟩
  have HT := Lib.hid hT
  clear hT
  go_wp2_with fail
  go_ret
  exact ⟨rfl, HT.out⟩
end
theorem EN1 : ∀ args w, (callFunc 59 args).run Tryz.prog w = .ok (.enter 59 args) w := enters_of Tryz.func59 (by kernel_rfl) rfl
theorem EN2 : ∀ args w, (callFunc 60 args).run Tryz.prog w = .ok (.enter 60 args) w := enters_of Tryz.func60 (by kernel_rfl) rfl
theorem EN3 : ∀ args w, (callFunc 61 args).run Tryz.prog w = .ok (.enter 61 args) w := enters_of Tryz.func61 (by kernel_rfl) rfl
theorem ENF : ∀ args w, (callFunc 19 args).run Tryz.prog w = .ok (.enter 19 args) w := enters_of Tryz.func19 (by kernel_rfl) rfl
theorem ENC1 : ∀ args w, (callFunc 63 args).run Tryz.prog w = .ok (.enter 63 args) w := enters_of Tryz.func63 (by kernel_rfl) rfl
/-- a block that is no part of the disk lies as it lay -/
theorem DSTo.keep {w w' : World} {p n : Nat} {L : List Nat} {D : PDisk} (h : DSTo w p L w' D n) {g : Nat} {t : TypeId} {cs : Array Value} (hB : Blk w g t cs) (hg : g ∉ p :: L) : Blk w' g t cs := by
  obtain ⟨_, _, ho, _⟩ := h
  exact hB.off ho hg
/-- the four steps of a Save, so far -/
def SaveAt (Wb : World) (p n : Nat) (L : List Nat) (D : PDisk) (b path text : ByteArray) : Nat → World → Prop
  | 0, W => DSTo Wb p L W D n
  | 1, W => (D.write b text 384).1 = 0 ∧ DSTo Wb p L W (D.write b text 384).2 (n + 2)
  | 2, W => (D.write b text 384).1 = 0 ∧ ((D.write b text 384).2.sync b).1 = 0 ∧ DSTo Wb p L W ((D.write b text 384).2.sync b).2 (n + 4)
  | 3, W => (D.write b text 384).1 = 0 ∧ ((D.write b text 384).2.sync b).1 = 0 ∧ (((D.write b text 384).2.sync b).2.replace b path).1 = 0 ∧ DSTo Wb p L W (((D.write b text 384).2.sync b).2.replace b path).2 (n + 6)
  | _, W => (D.write b text 384).1 = 0 ∧ ((D.write b text 384).2.sync b).1 = 0 ∧ (((D.write b text 384).2.sync b).2.replace b path).1 = 0 ∧ (((D.write b text 384).2.sync b).2.replace b path).2.flush.1 = 0 ∧ DSTo Wb p L W (((D.write b text 384).2.sync b).2.replace b path).2.flush.2 (n + 8)
theorem SaveAt.to {Wb W : World} {p n i : Nat} {L : List Nat} {D : PDisk} {b path text : ByteArray} (h : SaveAt Wb p n L D b path text i W) : ∃ D' n', DSTo Wb p L W D' n' := by
  match i, h with
  | 0, h => exact ⟨_, _, h⟩
  | 1, h => exact ⟨_, _, h.2⟩
  | 2, h => exact ⟨_, _, h.2.2⟩
  | 3, h => exact ⟨_, _, h.2.2.2⟩
  | i + 4, h => exact ⟨_, _, h.2.2.2.2⟩
set_option maxRecDepth 100000 in
set_option maxHeartbeats 8000000 in
theorem dsave_call (p n : Nat) (G : Geo) (D : PDisk) (path text : ByteArray) (w : World) (h : DS w p G D n) (hn : n ≤ 100000) (hs : path.size ≤ 100000) :
    Calls Tryz.prog 22 #[.pointer (some ⟨p, 0, none⟩), .string path, .string text] w fun e w' => e = .returned (.int .i64 (D.save path text).1) ∧ DSTo w p G.parts w' (D.save path text).2 (n + 8) := by
  have H := Lib.hid h
  obtain ⟨b, hb⟩ : ∃ b, besideP path = b := ⟨_, rfl⟩
  have HBS := Lib.hid (show b.size ≤ 1000000 by rw [← hb, beside_size]; omega)
  have HBE := Lib.hid (fun (W : World) => beside_any path W (by omega))
  rw [hb] at HBE
  have HSV := Lib.hid (show D.save path text = if (D.write b text 384).1 ≠ 0 then D.write b text 384 else if ((D.write b text 384).2.sync b).1 ≠ 0 then (D.write b text 384).2.sync b else if (((D.write b text 384).2.sync b).2.replace b path).1 ≠ 0 then ((D.write b text 384).2.sync b).2.replace b path else (((D.write b text 384).2.sync b).2.replace b path).2.flush by
    unfold PDisk.save; rw [hb])
  clear h hb
  go_enter Tryz.func22, Tryz.ntmps22
  go_wp2_with fail
  have hb1 : Blk (((w.alloc (.cells #[.pointer (some ⟨p, 0, none⟩)] 25)).alloc (.cells #[.string path] 9)).alloc (.cells #[.string text] 9)) w.heap.size 25 #[.pointer (some ⟨p, 0, none⟩)] := ((Blk.new w _ _).alloc _).alloc _
  have hb2 : Blk (((w.alloc (.cells #[.pointer (some ⟨p, 0, none⟩)] 25)).alloc (.cells #[.string path] 9)).alloc (.cells #[.string text] 9)) (w.heap.size + 1) 9 #[.string path] := (Blk.new1 w _ _ _).alloc _
  have hb3 : Blk (((w.alloc (.cells #[.pointer (some ⟨p, 0, none⟩)] 25)).alloc (.cells #[.string path] 9)).alloc (.cells #[.string text] 9)) (w.heap.size + 1 + 1) 9 #[.string text] := Blk.new2 w _ _ _ _
  refine (HBE.out _).mono ?_
  rintro e w1 ⟨rfl, ho1⟩
  have HB1 := Lib.hid (hb1.off ho1 (by simp))
  have HB2 := Lib.hid (hb2.off ho1 (by simp))
  have HB3 := Lib.hid (hb3.off ho1 (by simp))
  have HO1 := Lib.hid (show Off [] w w1 from ((((Off.refl _ _).alloc _).alloc _).alloc _).trans_nil ho1)
  clear hb1 hb2 hb3 ho1
  go_upto_region 2 with fail
  refine code_gen (fun W => Blk W w.heap.size 25 #[.pointer (some ⟨p, 0, none⟩)] ∧ Blk W (w.heap.size + 1) 9 #[.string path] ∧ Blk W (w.heap.size + 1 + 1) 9 #[.string text] ∧ Blk W w1.heap.size 9 #[.string b] ∧ Off [] w W)
    ⟨HB1.out.alloc _, HB2.out.alloc _, HB3.out.alloc _, Blk.new w1 _ _, HO1.out.alloc _⟩ ?_
  rintro Wx ⟨k1, k2, k3, k4, ko⟩
  obtain ⟨Wb, hWb⟩ : ∃ Wb, Wx.alloc (.cells #[.func (.func 59) #[] #[.pointer (some ⟨w.heap.size, 0, none⟩), .pointer (some ⟨w1.heap.size, 0, none⟩), .pointer (some ⟨w.heap.size + 1 + 1, 0, none⟩)], .func (.func 60) #[] #[.pointer (some ⟨w.heap.size, 0, none⟩), .pointer (some ⟨w1.heap.size, 0, none⟩)], .func (.func 61) #[] #[.pointer (some ⟨w.heap.size, 0, none⟩), .pointer (some ⟨w1.heap.size, 0, none⟩), .pointer (some ⟨w.heap.size + 1, 0, none⟩)], .func (.func 19) #[.pointer (some ⟨p, 0, none⟩)] #[]] 37) = Wb := ⟨_, rfl⟩
  have hbs : Blk Wb Wx.heap.size 37 #[.func (.func 59) #[] #[.pointer (some ⟨w.heap.size, 0, none⟩), .pointer (some ⟨w1.heap.size, 0, none⟩), .pointer (some ⟨w.heap.size + 1 + 1, 0, none⟩)], .func (.func 60) #[] #[.pointer (some ⟨w.heap.size, 0, none⟩), .pointer (some ⟨w1.heap.size, 0, none⟩)], .func (.func 61) #[] #[.pointer (some ⟨w.heap.size, 0, none⟩), .pointer (some ⟨w1.heap.size, 0, none⟩), .pointer (some ⟨w.heap.size + 1, 0, none⟩)], .func (.func 19) #[.pointer (some ⟨p, 0, none⟩)] #[]] := by rw [← hWb]; exact Blk.new Wx _ _
  have hob : Off [] Wx Wb := by rw [← hWb]; exact (Off.refl _ _).alloc _
  have hW : Off [] w Wb := ko.trans_nil hob
  have hfar : ∀ g, w.heap.size ≤ g → g ∉ p :: G.parts := fun g hg hm => by
    rcases List.mem_cons.1 hm with rfl | hm
    · have := H.out.m.blk.lt; omega
    · have := H.out.m.parts.lt hm; omega
  have hw1 : w.heap.size ≤ w1.heap.size := HO1.out.size
  have hwx : w.heap.size ≤ Wx.heap.size := ko.size
  have k1b := k1.off hob (by simp)
  have k2b := k2.off hob (by simp)
  have k3b := k3.off hob (by simp)
  have k4b := k4.off hob (by simp)
  have HU := Lib.hid (until_any Wx.heap.size 4 4 [(59, #[], #[.pointer (some ⟨w.heap.size, 0, none⟩), .pointer (some ⟨w1.heap.size, 0, none⟩), .pointer (some ⟨w.heap.size + 1 + 1, 0, none⟩)]), (60, #[], #[.pointer (some ⟨w.heap.size, 0, none⟩), .pointer (some ⟨w1.heap.size, 0, none⟩)]), (61, #[], #[.pointer (some ⟨w.heap.size, 0, none⟩), .pointer (some ⟨w1.heap.size, 0, none⟩), .pointer (some ⟨w.heap.size + 1, 0, none⟩)]), (19, #[.pointer (some ⟨p, 0, none⟩)], #[])]
    (SaveAt Wb p n G.parts D b path text) (fun v W => v = (D.save path text).1 ∧ DSTo Wb p G.parts W (D.save path text).2 (n + 8)) Wb rfl (by decide) ((H.out.off hW).refl)
    (fun i W hP => by
      obtain ⟨D', n', hT⟩ := hP.to
      have hB := hT.keep hbs (hfar _ hwx)
      refine ⟨hB.lt, fun j f hj => ?_⟩
      rw [hB.cell]
      match j, hj with
      | 0, hj => cases hj; rfl
      | 1, hj => cases hj; rfl
      | 2, hj => cases hj; rfl
      | 3, hj => cases hj; rfl
      | j + 4, hj => simp at hj)
    (fun i f W hf hP => by
      match i, hf, hP with
      | 0, hf, hP =>
        cases hf
        have hT : DSTo Wb p G.parts W D n := hP
        obtain ⟨G1, h1, ho, hp⟩ := hT
        refine (save1_any p n _ _ _ G1 D W b text h1 (by omega) HBS.out (k1b.off ho (hfar _ (Nat.le_refl _))) (k4b.off ho (hfar _ hw1)) (k3b.off ho (hfar _ (by omega)))).mono ?_
        rintro e w' ⟨rfl, hT2⟩
        have hT3 := DSTo.step ho hp hT2
        refine ⟨_, rfl, fun hv => ⟨hv, hT3⟩, fun hv => ?_⟩
        rw [HSV.out, if_pos hv]
        exact ⟨rfl, hT3.le (by omega)⟩
      | 1, hf, hP =>
        cases hf
        obtain ⟨e1, hT⟩ : (D.write b text 384).1 = 0 ∧ DSTo Wb p G.parts W (D.write b text 384).2 (n + 2) := hP
        obtain ⟨G1, h1, ho, hp⟩ := hT
        refine (save2_any p (n + 2) _ _ G1 _ W b h1 (by omega) HBS.out (k1b.off ho (hfar _ (Nat.le_refl _))) (k4b.off ho (hfar _ hw1))).mono ?_
        rintro e w' ⟨rfl, hT2⟩
        have hT3 := DSTo.step ho hp hT2
        refine ⟨_, rfl, fun hv => ⟨e1, hv, hT3⟩, fun hv => ?_⟩
        rw [HSV.out, if_neg (by rw [e1]; decide), if_pos hv]
        exact ⟨rfl, hT3.le (by omega)⟩
      | 2, hf, hP =>
        cases hf
        obtain ⟨e1, e2, hT⟩ : (D.write b text 384).1 = 0 ∧ ((D.write b text 384).2.sync b).1 = 0 ∧ DSTo Wb p G.parts W ((D.write b text 384).2.sync b).2 (n + 4) := hP
        obtain ⟨G1, h1, ho, hp⟩ := hT
        refine (save3_any p (n + 4) _ _ _ G1 _ W b path h1 (by omega) HBS.out (by omega) (k1b.off ho (hfar _ (Nat.le_refl _))) (k4b.off ho (hfar _ hw1)) (k2b.off ho (hfar _ (by omega)))).mono ?_
        rintro e w' ⟨rfl, hT2⟩
        have hT3 := DSTo.step ho hp hT2
        refine ⟨_, rfl, fun hv => ⟨e1, e2, hv, hT3⟩, fun hv => ?_⟩
        rw [HSV.out, if_neg (by rw [e1]; decide), if_neg (by rw [e2]; decide), if_pos hv]
        exact ⟨rfl, hT3.le (by omega)⟩
      | 3, hf, hP =>
        cases hf
        obtain ⟨e1, e2, e3, hT⟩ : (D.write b text 384).1 = 0 ∧ ((D.write b text 384).2.sync b).1 = 0 ∧ (((D.write b text 384).2.sync b).2.replace b path).1 = 0 ∧ DSTo Wb p G.parts W (((D.write b text 384).2.sync b).2.replace b path).2 (n + 6) := hP
        obtain ⟨G1, h1, ho, hp⟩ := hT
        refine (flush_call p (n + 6) G1 _ W h1 (by omega)).mono ?_
        rintro e w' ⟨rfl, hT2⟩
        have hT3 := DSTo.step ho hp hT2
        refine ⟨_, rfl, fun hv => ⟨e1, e2, e3, hv, hT3⟩, fun hv => ?_⟩
        rw [HSV.out, if_neg (by rw [e1]; decide), if_neg (by rw [e2]; decide), if_neg (by rw [e3]; decide)]
        exact ⟨rfl, hT3⟩
      | i + 4, hf, hP => simp at hf)
    (fun W hP => by
      obtain ⟨e1, e2, e3, e4, hT⟩ : (D.write b text 384).1 = 0 ∧ ((D.write b text 384).2.sync b).1 = 0 ∧ (((D.write b text 384).2.sync b).2.replace b path).1 = 0 ∧ (((D.write b text 384).2.sync b).2.replace b path).2.flush.1 = 0 ∧ DSTo Wb p G.parts W (((D.write b text 384).2.sync b).2.replace b path).2.flush.2 (n + 8) := hP
      rw [HSV.out, if_neg (by rw [e1]; decide), if_neg (by rw [e2]; decide), if_neg (by rw [e3]; decide)]
      exact ⟨e4.symm, hT⟩)
    (fun f hf => by
      simp only [List.mem_cons, List.not_mem_nil, or_false] at hf
      rcases hf with rfl | rfl | rfl | rfl
      · exact EN1
      · exact EN2
      · exact EN3
      · exact ENF))
  have HW := Lib.hid hW
  have hc1 := k1.cell
  have hl1 := k1.lt
  clear k2 k3 k4 ko hbs hob hW hfar hw1 hwx k1b k2b k3b k4b k1 HSV HBE HB1 HB2 HB3
  go_wp2_with fail
  refine HU.out.mono ?_
  rintro e w2 ⟨v, rfl, rfl, hT⟩
  have HT := Lib.hid hT
  clear hT hc1 hl1
  go_wp2_with fail
  go_ret
  exact ⟨rfl, DSTo.step (G1 := G) (HW.out.mono (fun _ _ h => by simp at h)) (fun _ hb => .inl hb) HT.out⟩
theorem clear_gone {D : PDisk} {p : ByteArray} (h : (D.remove p).1 = 74) : D.clear p = (0, (D.remove p).2) := by unfold PDisk.clear; dsimp only; rw [if_pos h]
theorem clear_err {D : PDisk} {p : ByteArray} (h : ¬ (D.remove p).1 = 74) (h0 : (D.remove p).1 ≠ 0) : D.clear p = D.remove p := by unfold PDisk.clear; dsimp only; rw [if_neg h, if_pos h0]
theorem clear_on {D : PDisk} {p : ByteArray} (h0 : (D.remove p).1 = 0) : D.clear p = if (D.remove p).2.flush.1 = 74 then (0, (D.remove p).2.flush.2) else (D.remove p).2.flush := by
  unfold PDisk.clear
  dsimp only
  rw [if_neg (by rw [h0]; decide), if_neg (by rw [h0]; decide)]
/-- the two steps of a Clear, so far -/
def ClearAt (Wb : World) (p n : Nat) (L : List Nat) (D : PDisk) (path : ByteArray) : Nat → World → Prop
  | 0, W => DSTo Wb p L W D n
  | 1, W => (D.remove path).1 = 0 ∧ DSTo Wb p L W (D.remove path).2 (n + 2)
  | _, W => (D.remove path).1 = 0 ∧ (D.remove path).2.flush.1 = 0 ∧ DSTo Wb p L W (D.remove path).2.flush.2 (n + 4)
theorem ClearAt.to {Wb W : World} {p n i : Nat} {L : List Nat} {D : PDisk} {path : ByteArray} (h : ClearAt Wb p n L D path i W) : ∃ D' n', DSTo Wb p L W D' n' := by
  match i, h with
  | 0, h => exact ⟨_, _, h⟩
  | 1, h => exact ⟨_, _, h.2⟩
  | i + 2, h => exact ⟨_, _, h.2.2⟩
set_option maxRecDepth 100000 in
set_option maxHeartbeats 8000000 in
theorem dclear_call (p n : Nat) (G : Geo) (D : PDisk) (path : ByteArray) (w : World) (h : DS w p G D n) (hn : n ≤ 100000) (hs : path.size ≤ 100000) :
    Calls Tryz.prog 25 #[.pointer (some ⟨p, 0, none⟩), .string path] w fun e w' => e = .returned (.int .i64 (D.clear path).1) ∧ DSTo w p G.parts w' (D.clear path).2 (n + 4) := by
  have H := Lib.hid h
  clear h
  go_enter Tryz.func25, Tryz.ntmps25
  go_upto_region 1 with fail
  refine code_gen (fun W => Blk W w.heap.size 25 #[.pointer (some ⟨p, 0, none⟩)] ∧ Blk W (w.heap.size + 1) 9 #[.string path] ∧ Off [] w W)
    ⟨(Blk.new w _ _).alloc _, Blk.new1 w _ _ _, ((Off.refl _ _).alloc _).alloc _⟩ ?_
  rintro Wx ⟨k1, k2, ko⟩
  obtain ⟨Wb, hWb⟩ : ∃ Wb, Wx.alloc (.cells #[.func (.func 63) #[] #[.pointer (some ⟨w.heap.size, 0, none⟩), .pointer (some ⟨w.heap.size + 1, 0, none⟩)], .func (.func 19) #[.pointer (some ⟨p, 0, none⟩)] #[]] 37) = Wb := ⟨_, rfl⟩
  have hbs : Blk Wb Wx.heap.size 37 #[.func (.func 63) #[] #[.pointer (some ⟨w.heap.size, 0, none⟩), .pointer (some ⟨w.heap.size + 1, 0, none⟩)], .func (.func 19) #[.pointer (some ⟨p, 0, none⟩)] #[]] := by rw [← hWb]; exact Blk.new Wx _ _
  have hob : Off [] Wx Wb := by rw [← hWb]; exact (Off.refl _ _).alloc _
  have hW : Off [] w Wb := ko.trans_nil hob
  have hfar : ∀ g, w.heap.size ≤ g → g ∉ p :: G.parts := fun g hg hm => by
    rcases List.mem_cons.1 hm with rfl | hm
    · have := H.out.m.blk.lt; omega
    · have := H.out.m.parts.lt hm; omega
  have hwx : w.heap.size ≤ Wx.heap.size := ko.size
  have k1b := k1.off hob (by simp)
  have k2b := k2.off hob (by simp)
  have HU := Lib.hid (until_any Wx.heap.size 2 2 [(63, #[], #[.pointer (some ⟨w.heap.size, 0, none⟩), .pointer (some ⟨w.heap.size + 1, 0, none⟩)]), (19, #[.pointer (some ⟨p, 0, none⟩)], #[])]
    (ClearAt Wb p n G.parts D path) (fun v W => (if v = 74 then 0 else v) = (D.clear path).1 ∧ DSTo Wb p G.parts W (D.clear path).2 (n + 4)) Wb rfl (by decide) ((H.out.off hW).refl)
    (fun i W hP => by
      obtain ⟨D', n', hT⟩ := hP.to
      have hB := hT.keep hbs (hfar _ hwx)
      refine ⟨hB.lt, fun j f hj => ?_⟩
      rw [hB.cell]
      match j, hj with
      | 0, hj => cases hj; rfl
      | 1, hj => cases hj; rfl
      | j + 2, hj => simp at hj)
    (fun i f W hf hP => by
      match i, hf, hP with
      | 0, hf, hP =>
        cases hf
        have hT : DSTo Wb p G.parts W D n := hP
        obtain ⟨G1, h1, ho, hp⟩ := hT
        refine (clear1_any p n _ _ G1 D W path h1 (by omega) (by omega) (k1b.off ho (hfar _ (Nat.le_refl _))) (k2b.off ho (hfar _ (by omega)))).mono ?_
        rintro e w' ⟨rfl, hT2⟩
        have hT3 := DSTo.step ho hp hT2
        refine ⟨_, rfl, fun hv => ⟨hv, hT3⟩, fun hv => ?_⟩
        by_cases h74 : (D.remove path).1 = 74
        · rw [if_pos h74, clear_gone h74]
          exact ⟨rfl, hT3.le (by omega)⟩
        · rw [if_neg h74, clear_err h74 hv]
          exact ⟨rfl, hT3.le (by omega)⟩
      | 1, hf, hP =>
        cases hf
        obtain ⟨e1, hT⟩ : (D.remove path).1 = 0 ∧ DSTo Wb p G.parts W (D.remove path).2 (n + 2) := hP
        obtain ⟨G1, h1, ho, hp⟩ := hT
        refine (flush_call p (n + 2) G1 _ W h1 (by omega)).mono ?_
        rintro e w' ⟨rfl, hT2⟩
        have hT3 := DSTo.step ho hp hT2
        refine ⟨_, rfl, fun hv => ⟨e1, hv, hT3⟩, fun hv => ?_⟩
        rw [clear_on e1]
        by_cases h74 : (D.remove path).2.flush.1 = 74
        · rw [if_pos h74, if_pos h74]
          exact ⟨rfl, hT3⟩
        · rw [if_neg h74, if_neg h74]
          exact ⟨rfl, hT3⟩
      | i + 2, hf, hP => simp at hf)
    (fun W hP => by
      obtain ⟨e1, e2, hT⟩ : (D.remove path).1 = 0 ∧ (D.remove path).2.flush.1 = 0 ∧ DSTo Wb p G.parts W (D.remove path).2.flush.2 (n + 4) := hP
      rw [clear_on e1, if_neg (by decide), if_neg (by rw [e2]; decide)]
      exact ⟨e2.symm, hT⟩)
    (fun f hf => by
      simp only [List.mem_cons, List.not_mem_nil, or_false] at hf
      rcases hf with rfl | rfl
      · exact ENC1
      · exact ENF))
  have HW := Lib.hid hW
  have hc1 := k1.cell
  have hl1 := k1.lt
  clear k2 ko hbs hob hW hfar hwx k1b k2b k1
  go_wp2_with fail
  refine HU.out.mono ?_
  rintro e w2 ⟨v, rfl, hv, hT⟩
  have HT := Lib.hid hT
  have HV := Lib.hid hv
  clear hT hc1 hl1 hv
  by_cases h74 : v = 74
  · have hq : (v == 74) = true := by rw [h74]; rfl
    have HV2 := Lib.hid (show (0 : Int) = (D.clear path).1 by rw [← HV.out, if_pos h74])
    clear h74
    go_wp2_with fail
    go_ret
    rw [← HV2.out]
    exact ⟨rfl, DSTo.step (G1 := G) (HW.out.mono (fun _ _ h => by simp at h)) (fun _ hb => .inl hb) HT.out⟩
  · have hq : (v == 74) = false := beq_eq_false_iff_ne.2 h74
    have HV2 := Lib.hid (show v = (D.clear path).1 by rw [← HV.out, if_neg h74])
    clear h74
    go_wp2_with fail
    go_ret
    rw [← HV2.out]
    exact ⟨rfl, DSTo.step (G1 := G) (HW.out.mono (fun _ _ h => by simp at h)) (fun _ hb => .inl hb) HT.out⟩
set_option maxRecDepth 100000 in
set_option maxHeartbeats 8000000 in
theorem dload_call (p n : Nat) (G : Geo) (D : PDisk) (path : ByteArray) (w : World) (h : DS w p G D n) (hn : n ≤ 100000) (hs : path.size ≤ 100000) :
    Calls Tryz.prog 23 #[.pointer (some ⟨p, 0, none⟩), .string path] w fun e w' => e = .returned (.tuple #[.string (D.load path).1.1, .bool (D.load path).1.2.1, .int .i64 (D.load path).1.2.2]) ∧ DSTo w p G.parts w' (D.load path).2 (n + 1) := by
  have HG := Lib.hid (dget_call p n G D path w h (by omega) (by omega))
  obtain ⟨r, hr⟩ : ∃ r, D.get path = r := ⟨_, rfl⟩
  have HL := Lib.hid (show D.load path = if r.1.1 = 74 then ((⟨#[]⟩, false, 0), r.2) else if r.1.1 ≠ 0 then ((⟨#[]⟩, false, r.1.1), r.2) else if r.1.2.1.kind ≠ 1 then ((⟨#[]⟩, false, 73), r.2) else ((r.1.2.1.data, true, 0), r.2) by
    unfold PDisk.load; rw [hr])
  rw [hr] at HG
  clear h hr
  obtain ⟨⟨er, nd, gi, gs, gt⟩, D2⟩ := r
  unfold getVal at HG
  dsimp only at HG HL
  go_enter Tryz.func23, Tryz.ntmps23
  go_wp2_with fail
  refine HG.out.mono ?_
  rintro e w2 ⟨rfl, hT⟩
  have HT := Lib.hid (show DSTo w p G.parts ((w2.alloc (.cells #[.string nd.path, .int .i64 nd.kind, .string nd.data, .int .i64 nd.mode] 30)).alloc (.cells #[.int .i64 gi, .int .i64 gs, .int .i64 gt] 39)) D2 (n + 1) from (hT.off ((Off.refl _ _).alloc _)).off ((Off.refl _ _).alloc _))
  clear hT HG
  by_cases h74 : er = 74
  · have hq : (er == 74) = true := by rw [h74]; rfl
    have HF := Lib.hid (show D.load path = ((⟨#[]⟩, false, 0), D2) by rw [HL.out, if_pos h74])
    clear h74 HL
    go_wp2_with fail
    go_ret3
    rw [HF.out]
    exact ⟨rfl, HT.out⟩
  · have hq : (er == 74) = false := beq_eq_false_iff_ne.2 h74
    by_cases h0 : er = 0
    · have hq0 : (er == 0) = true := by rw [h0]; rfl
      by_cases hk : nd.kind = 1
      · have hqk : (nd.kind == 1) = true := by rw [hk]; rfl
        have HF := Lib.hid (show D.load path = ((nd.data, true, 0), D2) by rw [HL.out, if_neg h74, if_neg (by rw [h0]; decide), if_neg (by rw [hk]; decide)])
        clear h74 h0 hk HL
        go_wp2_with fail
        go_ret3
        rw [HF.out]
        exact ⟨rfl, HT.out⟩
      · have hqk : (nd.kind == 1) = false := beq_eq_false_iff_ne.2 hk
        have HF := Lib.hid (show D.load path = ((⟨#[]⟩, false, 73), D2) by rw [HL.out, if_neg h74, if_neg (by rw [h0]; decide), if_pos hk])
        clear h74 h0 hk HL
        go_wp2_with fail
        go_ret3
        rw [HF.out]
        exact ⟨rfl, HT.out⟩
    · have hq0 : (er == 0) = false := beq_eq_false_iff_ne.2 h0
      have HF := Lib.hid (show D.load path = ((⟨#[]⟩, false, er), D2) by rw [HL.out, if_neg h74, if_pos h0])
      clear h74 h0 HL
      go_wp2_with fail
      go_ret3
      rw [HF.out]
      exact ⟨rfl, HT.out⟩
set_option maxRecDepth 100000 in
theorem dsteps_call (p n : Nat) (G : Geo) (D : PDisk) (w : World) (h : DS w p G D n) : Calls Tryz.prog 31 #[.pointer (some ⟨p, 0, none⟩)] w fun e w' => e = .returned (.int .i64 D.trace.length) ∧ Off [] w w' := by
  obtain ⟨pt, ct, htv⟩ := row_len h.m.parts.trace
  have hc := h.m.blk.cell
  unfold diskCells at hc
  rw [htv] at hc
  generalize D.trace.length = T at hc ⊢
  clear h htv
  go_enter Tryz.func31, Tryz.ntmps31
  go_wp2_with fail
  go_ret
  exact ⟨rfl, Off.refl _ _⟩
end Go.Proofs.YtgcfkljooabjjaaGreatDoor

/- What a Save does to a disk, in plain words, whatever breaks it off. Conditions: none beyond what each lemma states. -/
namespace Go.Proofs.YtgcfkljooabjjaaGreatDoor
open PDisk

theorem n75 : (75 : Int) ≠ 0 := by decide
theorem n70 : (70 : Int) ≠ 0 := by decide
theorem n71 : (71 : Int) ≠ 0 := by decide
/-- one step made -/
def PDisk.tick (D : PDisk) (c p q : ByteArray) : PDisk := { D with clock := D.clock + 1, trace := D.trace ++ [⟨c, p, q⟩] }
theorem call_run {D E : PDisk} {c p q : ByteArray} {full : Bool} {k : PDisk → Bool → Int × PDisk} (h : D.step c p q = (full, 0, E)) : D.call c p q k = k E full := by
  unfold PDisk.call; rw [h]; simp
theorem call_err {D E : PDisk} {c p q : ByteArray} {full : Bool} {e : Int} {k : PDisk → Bool → Int × PDisk} (h : D.step c p q = (full, e, E)) (he : e ≠ 0) : D.call c p q k = (e, E) := by
  unfold PDisk.call; rw [h]; simp [he]
theorem step_free {D : PDisk} (c p q : ByteArray) (h : D.off = false) (hf : D.fates = []) : D.step c p q = (false, 0, D.tick c p q) :=
  step_quiet c p q h (by rw [hf]; intro f hf; cases hf)
/-- with one fate a step goes on, or the disk crashes, or it is refused, or it has no room -/
theorem step_four {D : PDisk} (c p q : ByteArray) (f : FateP) (h : D.off = false) (hf : D.fates = [f]) :
    D.step c p q = (false, 0, D.tick c p q) ∨ D.step c p q = (false, 75, (D.tick c p q).crash f) ∨ D.step c p q = (false, 70, D.tick c p q) ∨ D.step c p q = (true, 0, D.tick c p q) := by
  by_cases ha : f.at_ = D.trace.length
  · by_cases h3 : f.what = 3
    · exact .inr (.inl (step_crash c p q f h hf ha h3))
    · by_cases h1 : f.what = 1
      · right; right; left
        unfold PDisk.step
        rw [h, hf]
        simp [ha, h1, tick, h, hf]
      · by_cases h2 : f.what = 2
        · right; right; right
          unfold PDisk.step
          rw [h, hf]
          simp [ha, h2, tick, h, hf]
        · left
          unfold PDisk.step
          rw [h, hf]
          simp [ha, h1, h2, h3, tick, h, hf]
  · left
    exact step_quiet c p q h (by rw [hf]; intro g hg; simp at hg; subst hg; exact ha)
section
variable {E : PDisk} {p q data : ByteArray} {mode : Int} {full : Bool}
theorem write__none (hp : okPath (str p) = true) (hr : bs (parent (str p)) = ⟨#[]⟩) (hs : data.size ≤ 65536) (hm : 0 ≤ mode ∧ mode ≤ 511) (hat : E.at_ p = none) (hl : E.names.length < 1000) :
    E.write_ false p data mode = (0, (E.make ⟨⟨#[]⟩, 1, data, mode⟩ E.clock true).change (putN E.names p (E.inos.length + 1))) := by
  unfold PDisk.write_ PDisk.lay
  rw [hat, no_ok hp, par_root _ hr]
  have h1 : (decide (65536 < data.size) || decide (mode < 0) || decide (511 < mode)) = false := by simp; omega
  rw [h1]
  have h2 : decide (1000 ≤ E.names.length) = false := decide_eq_false (by omega)
  rw [h2]
  rfl
theorem write__full (hat : E.at_ p = none) (hp : okPath (str p) = true) (hr : bs (parent (str p)) = ⟨#[]⟩) (hs : data.size ≤ 65536) (hm : 0 ≤ mode ∧ mode ≤ 511) : E.write_ true p data mode = (71, E) := by
  unfold PDisk.write_ PDisk.lay
  rw [hat, no_ok hp, par_root _ hr]
  have h1 : (decide (65536 < data.size) || decide (mode < 0) || decide (511 < mode)) = false := by simp; omega
  rw [h1]
  rfl
theorem write__some {o : Ino} (hp : okPath (str p) = true) (hr : bs (parent (str p)) = ⟨#[]⟩) (hs : data.size ≤ 65536) (hm : 0 ≤ mode ∧ mode ≤ 511) (hat : E.at_ p = some o) (hk : o.node.kind = 1) :
    E.write_ false p data mode = (0, { E with inos := E.inos.set (lookN E.names p - 1) ⟨⟨⟨#[]⟩, 1, data, mode⟩, E.clock, true⟩ }) := by
  unfold PDisk.write_
  rw [hat, no_ok hp, par_root _ hr]
  have h1 : (decide (65536 < data.size) || decide (mode < 0) || decide (511 < mode)) = false := by simp; omega
  rw [h1]
  simp [hk, firstE]
theorem sync__some {o : Ino} (hp : okPath (str p) = true) (hat : E.at_ p = some o) : E.sync_ p = (0, { E with inos := E.inos.set (lookN E.names p - 1) { o with dirty := false } }) := by
  unfold PDisk.sync_ PDisk.gone
  rw [hat, no_ok hp]
  rfl
theorem replace__q {o : Ino} (hp : okPath (str p) = true) (hq : okPath (str q) = true) (hr : bs (parent (str q)) = ⟨#[]⟩) (hne : p ≠ q) (hat : E.at_ p = some o) (hd : E.dir p = false) (hd2 : E.dir q = false) :
    E.replace_ p q = (0, E.change (delN (putN E.names q (lookN E.names p)) p)) := by
  unfold PDisk.replace_ PDisk.gone
  rw [hat, no_ok hp, no_ok hq, par_root _ hr, hd, hd2, decide_eq_false hne]
  rfl
theorem remove__q {o : Ino} (hp : okPath (str p) = true) (hat : E.at_ p = some o) (hi : E.inside p = false) : E.remove_ p = (0, E.change (delN E.names p)) := by
  unfold PDisk.remove_ PDisk.gone
  rw [hat, no_ok hp, hi]
  rfl
theorem dir_file {o : Ino} (hne : p ≠ ⟨#[]⟩) (hat : E.at_ p = some o) (hk : o.node.kind = 1) : E.dir p = false := by
  unfold PDisk.dir
  rw [decide_eq_false hne, hat]
  simp [hk]
theorem dir_none (hne : p ≠ ⟨#[]⟩) (hat : E.at_ p = none) : E.dir p = false := by
  unfold PDisk.dir
  rw [decide_eq_false hne, hat]
  rfl
end
theorem at_none_of {D : PDisk} {p : ByteArray} (h : hasN D.names p = false) : D.at_ p = none := by
  unfold PDisk.at_ PDisk.inode
  rw [if_pos (lookN_of_not h)]
theorem ok_ne {p : ByteArray} (h : okPath (str p) = true) : p ≠ ⟨#[]⟩ := by
  rintro rfl
  exact absurd h (by decide +kernel)
def Clean (D : PDisk) : Prop := ∀ n ∈ D.inos, n.dirty = false
theorem crash_clean (D : PDisk) (f : FateP) : Clean (D.crash f) := by
  intro n hn
  obtain ⟨m, _, rfl⟩ := List.mem_map.1 (show n ∈ D.inos.map (tear f.torn) from hn)
  unfold tear
  split
  · rfl
  · rename_i h; simpa using h
theorem tear_kind (t : Int) (n : Ino) : (tear t n).node.kind = n.node.kind := by unfold tear; split <;> rfl
theorem crash_old {D : PDisk} {f : FateP} {i : Nat} {n : Ino} (h : D.inos[i]? = some n) (hc : n.dirty = false) : (D.crash f).inos[i]? = some n := by
  show (D.inos.map (tear f.torn))[i]? = some n
  rw [List.getElem?_map, h]
  show some (tear f.torn n) = _
  rw [tear_clean hc]
/-- the four calls of a Save -/
def wN : ByteArray := ⟨#[87, 114, 105, 116, 101]⟩
def sN : ByteArray := ⟨#[83, 121, 110, 99]⟩
def rN : ByteArray := ⟨#[82, 101, 112, 108, 97, 99, 101]⟩
def fN : ByteArray := ⟨#[70, 108, 117, 115, 104]⟩
/-- a Save of a path whose path beside is free, on a disk all of which is safe -/
structure SaveReady (D : PDisk) (p t text : ByteArray) : Prop where
  beside : besideP p = t
  okp : okPath (str p) = true
  okt : okPath (str t) = true
  rp : bs (parent (str p)) = ⟨#[]⟩
  rt : bs (parent (str t)) = ⟨#[]⟩
  ne : t ≠ p
  free : hasN D.names t = false
  dir : D.dir p = false
  len : D.names.length < 1000
  size : text.size ≤ 65536
  on : D.off = false
  safe : D.safe = D.names
  later : D.later = []
  clean : Clean D
/-- the new inode's number -/
def newI (D : PDisk) : Nat := D.inos.length + 1
def nm1 (D : PDisk) (t : ByteArray) : NameL := putN D.names t (newI D)
def nm2 (D : PDisk) (p t : ByteArray) : NameL := delN (putN (nm1 D t) p (newI D)) t
/-- where a Save may have been broken off -/
structure Mid (D D' : PDisk) (p t text : ByteArray) (e : Int) : Prop where
  old : ∀ (i : Nat) (n : Ino), D.inos[i]? = some n → D'.inos[i]? = some n
  how : (D'.names = D.names ∧ e ≠ 0) ∨ (D'.names = nm1 D t ∧ e ≠ 0 ∧ ∃ n, D'.inos[D.inos.length]? = some n ∧ n.node.kind = 1) ∨
    (D'.names = nm2 D p t ∧ ∃ n, D'.inos[D.inos.length]? = some n ∧ n.node.kind = 1 ∧ n.node.data = text ∧ n.dirty = false)
section
variable {D : PDisk} {p t text : ByteArray} {f : FateP}
theorem look_new : lookN (nm1 D t) t = newI D := by unfold nm1; rw [lookN_putN, if_pos rfl]
/-- behind the Write -/
structure W1 (D E : PDisk) (p t text : ByteArray) (d : Bool) : Prop where
  names : E.names = nm1 D t
  safe : E.safe = D.names
  later : E.later = [nm1 D t]
  inos : ∃ tm, E.inos = D.inos ++ [⟨⟨⟨#[]⟩, 1, text, 384⟩, tm, d⟩]
  on : E.off = false
theorem w1_write (h : SaveReady D p t text) (c a b : ByteArray) : W1 D ((D.tick c a b).write_ false t text 384).2 p t text true ∧ ((D.tick c a b).write_ false t text 384).1 = 0 ∧ ((D.tick c a b).write_ false t text 384).2.fates = D.fates := by
  rw [write__none h.okt h.rt h.size (by decide) (at_none_of (D := D.tick c a b) h.free) h.len]
  exact ⟨⟨rfl, h.safe, by show D.later ++ [_] = _; rw [h.later]; rfl, ⟨_, rfl⟩, h.on⟩, rfl, rfl⟩
theorem w1_at {E : PDisk} {d : Bool} (k : W1 D E p t text d) : ∃ tm, E.at_ t = some ⟨⟨⟨#[]⟩, 1, text, 384⟩, tm, d⟩ := by
  obtain ⟨tm, hi⟩ := k.inos
  refine ⟨tm, ?_⟩
  unfold PDisk.at_ PDisk.inode
  rw [k.names, look_new, hi]
  unfold newI
  simp
theorem w1_tick {E : PDisk} {d : Bool} (k : W1 D E p t text d) (c a b : ByteArray) : W1 D (E.tick c a b) p t text d := ⟨k.names, k.safe, k.later, k.inos, k.on⟩
theorem w1_sync {E : PDisk} (h : SaveReady D p t text) (k : W1 D E p t text true) : W1 D (E.sync_ t).2 p t text false ∧ (E.sync_ t).1 = 0 ∧ (E.sync_ t).2.fates = E.fates := by
  obtain ⟨tm, ha⟩ := w1_at k
  obtain ⟨tm2, hi⟩ := k.inos
  rw [sync__some h.okt ha]
  refine ⟨⟨k.names, k.safe, k.later, ⟨tm, ?_⟩, k.on⟩, rfl, rfl⟩
  show E.inos.set (lookN E.names t - 1) _ = _
  rw [k.names, look_new, hi]
  unfold newI
  simp
/-- a crash behind the Write -/
theorem w1_crash {E : PDisk} {d : Bool} {e : Int} (h : SaveReady D p t text) (k : W1 D E p t text d) (he : e ≠ 0) : Mid D (E.crash f) p t text e := by
  obtain ⟨tm, hi⟩ := k.inos
  refine ⟨fun i n hn => ?_, ?_⟩
  · refine crash_old ?_ (h.clean n (List.mem_of_getElem? hn))
    rw [hi, List.getElem?_append_left (List.getElem?_eq_some_iff.1 hn).1]; exact hn
  · rcases crash_names E f with hc | hc
    · left; rw [hc, k.safe]; exact ⟨rfl, he⟩
    · right; left
      rw [k.later] at hc
      simp only [List.mem_singleton] at hc
      refine ⟨hc, he, tear f.torn ⟨⟨⟨#[]⟩, 1, text, 384⟩, tm, d⟩, ?_, ?_⟩
      · show (E.inos.map (tear f.torn))[D.inos.length]? = _
        rw [List.getElem?_map, hi]
        simp
      · rw [tear_kind]
theorem w1_mid {E : PDisk} {d : Bool} {e : Int} (k : W1 D E p t text d) (he : e ≠ 0) : Mid D E p t text e := by
  obtain ⟨tm, hi⟩ := k.inos
  refine ⟨fun i n hn => ?_, .inr (.inl ⟨k.names, he, _, by rw [hi]; simp; rfl, rfl⟩)⟩
  rw [hi, List.getElem?_append_left (List.getElem?_eq_some_iff.1 hn).1]; exact hn
/-- behind the Replace -/
structure W3 (D E : PDisk) (p t text : ByteArray) : Prop where
  names : E.names = nm2 D p t
  safe : E.safe = D.names
  later : E.later = [nm1 D t, nm2 D p t]
  inos : ∃ tm, E.inos = D.inos ++ [⟨⟨⟨#[]⟩, 1, text, 384⟩, tm, false⟩]
  on : E.off = false
theorem w3_replace {E : PDisk} (h : SaveReady D p t text) (k : W1 D E p t text false) : W3 D (E.replace_ t p).2 p t text ∧ (E.replace_ t p).1 = 0 ∧ (E.replace_ t p).2.fates = E.fates := by
  obtain ⟨tm, ha⟩ := w1_at k
  have hdt := dir_file (ok_ne h.okt) ha rfl
  have hdp : E.dir p = false := by
    have hd := h.dir
    unfold PDisk.dir at hd ⊢
    rw [decide_eq_false (ok_ne h.okp), Bool.false_or] at hd ⊢
    obtain ⟨tm2, hi⟩ := k.inos
    have e1 : lookN E.names p = lookN D.names p := by rw [k.names]; unfold nm1; rw [lookN_putN, if_neg h.ne]
    have e2 : E.at_ p = none ∨ E.at_ p = D.at_ p ∨ ∃ x : Ino, E.at_ p = some x ∧ x.node.kind = 1 := by
      unfold PDisk.at_ PDisk.inode
      rw [e1]
      split
      · exact .inl rfl
      · rw [hi, List.getElem?_append]
        split
        · exact .inr (.inl rfl)
        · by_cases hz : lookN D.names p - 1 - D.inos.length = 0
          · rw [hz]; exact .inr (.inr ⟨_, rfl, rfl⟩)
          · left
            rw [List.getElem?_eq_none]
            simp; omega
    rcases e2 with h1 | h1 | ⟨x, h1, h2⟩
    · rw [h1]
    · rw [h1]; exact hd
    · rw [h1]; simp [h2]
  rw [replace__q h.okt h.okp h.rp h.ne ha hdt hdp]
  refine ⟨⟨?_, k.safe, ?_, k.inos, k.on⟩, rfl, rfl⟩
  · show delN (putN E.names p (lookN E.names t)) t = _
    rw [k.names, look_new]; rfl
  · show E.later ++ [delN (putN E.names p (lookN E.names t)) t] = _
    rw [k.later, k.names, look_new]; rfl
theorem w3_tick {E : PDisk} (k : W3 D E p t text) (c a b : ByteArray) : W3 D (E.tick c a b) p t text := ⟨k.names, k.safe, k.later, k.inos, k.on⟩
theorem w3_mid {E : PDisk} {e : Int} (k : W3 D E p t text) : Mid D E p t text e := by
  obtain ⟨tm, hi⟩ := k.inos
  refine ⟨fun i n hn => ?_, .inr (.inr ⟨k.names, _, by rw [hi]; simp; rfl, rfl, rfl, rfl⟩)⟩
  rw [hi, List.getElem?_append_left (List.getElem?_eq_some_iff.1 hn).1]; exact hn
theorem w3_crash {E : PDisk} {e : Int} (h : SaveReady D p t text) (k : W3 D E p t text) (he : e ≠ 0) : Mid D (E.crash f) p t text e := by
  obtain ⟨tm, hi⟩ := k.inos
  have hn3 : (E.crash f).inos[D.inos.length]? = some ⟨⟨⟨#[]⟩, 1, text, 384⟩, tm, false⟩ := crash_old (by rw [hi]; simp) rfl
  refine ⟨fun i n hn => ?_, ?_⟩
  · refine crash_old ?_ (h.clean n (List.mem_of_getElem? hn))
    rw [hi, List.getElem?_append_left (List.getElem?_eq_some_iff.1 hn).1]; exact hn
  · rcases crash_names E f with hc | hc
    · left; rw [hc, k.safe]; exact ⟨rfl, he⟩
    · rw [k.later] at hc
      simp only [List.mem_cons, List.not_mem_nil, or_false] at hc
      rcases hc with hc | hc
      · exact .inr (.inl ⟨hc, he, _, hn3, rfl⟩)
      · exact .inr (.inr ⟨hc, _, hn3, rfl, rfl, rfl⟩)
theorem mid_flush {E : PDisk} (h : SaveReady D p t text) (k : W3 D E p t text) (hf : E.fates = [f]) : Mid D E.flush.2 p t text E.flush.1 := by
  rcases step_four fN ⟨#[]⟩ ⟨#[]⟩ f k.on hf with hs | hs | hs | hs
  · have hy : E.flush = (0, (E.tick fN ⟨#[]⟩ ⟨#[]⟩).flush_) := call_run hs
    rw [hy]
    have k2 := w3_tick k fN ⟨#[]⟩ ⟨#[]⟩
    obtain ⟨a, b⟩ := w3_mid (e := 0) k2
    exact ⟨a, b⟩
  · have hy : E.flush = (75, (E.tick fN ⟨#[]⟩ ⟨#[]⟩).crash f) := call_err hs n75
    rw [hy]
    exact w3_crash h (w3_tick k _ _ _) n75
  · have hy : E.flush = (70, E.tick fN ⟨#[]⟩ ⟨#[]⟩) := call_err hs n70
    rw [hy]
    exact w3_mid (w3_tick k _ _ _)
  · have hy : E.flush = (0, (E.tick fN ⟨#[]⟩ ⟨#[]⟩).flush_) := call_run hs
    rw [hy]
    have k2 := w3_tick k fN ⟨#[]⟩ ⟨#[]⟩
    obtain ⟨a, b⟩ := w3_mid (e := 0) k2
    exact ⟨a, b⟩
def fin3 (r : Int × PDisk) : Int × PDisk := if r.1 ≠ 0 then r else r.2.flush
theorem mid_replace {E : PDisk} (h : SaveReady D p t text) (k : W1 D E p t text false) (hf : E.fates = [f]) : Mid D (fin3 (E.replace t p)).2 p t text (fin3 (E.replace t p)).1 := by
  have go : E.replace t p = (E.tick rN t p).replace_ t p → Mid D (fin3 (E.replace t p)).2 p t text (fin3 (E.replace t p)).1 := fun hy => by
    obtain ⟨k3, e3, g3⟩ := w3_replace h (w1_tick k rN t p)
    have : fin3 (E.replace t p) = (E.replace t p).2.flush := by unfold fin3; rw [if_neg (by rw [hy, e3]; decide)]
    rw [this, hy]
    exact mid_flush h k3 (g3.trans hf)
  rcases step_four rN t p f k.on hf with hs | hs | hs | hs
  · exact go (call_run hs)
  · have hy : E.replace t p = (75, (E.tick rN t p).crash f) := call_err hs n75
    rw [hy]
    exact w1_crash h (w1_tick k _ _ _) n75
  · have hy : E.replace t p = (70, E.tick rN t p) := call_err hs n70
    rw [hy]
    exact w1_mid (w1_tick k _ _ _) n70
  · exact go (call_run hs)
def fin2 (t p : ByteArray) (r : Int × PDisk) : Int × PDisk := if r.1 ≠ 0 then r else fin3 (r.2.replace t p)
theorem mid_sync {E : PDisk} (h : SaveReady D p t text) (k : W1 D E p t text true) (hf : E.fates = [f]) : Mid D (fin2 t p (E.sync t)).2 p t text (fin2 t p (E.sync t)).1 := by
  have go : E.sync t = (E.tick sN t ⟨#[]⟩).sync_ t → Mid D (fin2 t p (E.sync t)).2 p t text (fin2 t p (E.sync t)).1 := fun hy => by
    obtain ⟨k3, e3, g3⟩ := w1_sync h (w1_tick k sN t ⟨#[]⟩)
    have : fin2 t p (E.sync t) = fin3 ((E.sync t).2.replace t p) := by unfold fin2; rw [if_neg (by rw [hy, e3]; decide)]
    rw [this, hy]
    exact mid_replace h k3 (g3.trans hf)
  rcases step_four sN t ⟨#[]⟩ f k.on hf with hs | hs | hs | hs
  · exact go (call_run hs)
  · have hy : E.sync t = (75, (E.tick sN t ⟨#[]⟩).crash f) := call_err hs n75
    rw [hy]
    exact w1_crash h (w1_tick k _ _ _) n75
  · have hy : E.sync t = (70, E.tick sN t ⟨#[]⟩) := call_err hs n70
    rw [hy]
    exact w1_mid (w1_tick k _ _ _) n70
  · exact go (call_run hs)
theorem save_eq (hb : besideP p = t) : D.save p text = if (D.write t text 384).1 ≠ 0 then D.write t text 384 else fin2 t p ((D.write t text 384).2.sync t) := by
  unfold PDisk.save fin2 fin3
  rw [hb]
/-- wherever one fate breaks a Save off -/
theorem save_mid (h : SaveReady D p t text) (hf : D.fates = [f]) : Mid D (D.save p text).2 p t text (D.save p text).1 := by
  rw [save_eq h.beside]
  have same : ∀ {E : PDisk} {e : Int}, E.names = D.names → E.inos = D.inos → e ≠ 0 → Mid D E p t text e := fun h1 h2 h3 => ⟨fun i n hn => by rw [h2]; exact hn, .inl ⟨h1, h3⟩⟩
  rcases step_four wN t ⟨#[]⟩ f h.on hf with hs | hs | hs | hs
  · obtain ⟨k1, e1, g1⟩ := w1_write h wN t ⟨#[]⟩
    have hw : D.write t text 384 = (D.tick wN t ⟨#[]⟩).write_ false t text 384 := call_run hs
    rw [if_neg (by rw [hw, e1]; decide), hw]
    exact mid_sync h k1 (g1.trans hf)
  · have hw : D.write t text 384 = (75, (D.tick wN t ⟨#[]⟩).crash f) := call_err hs n75
    rw [hw, if_pos n75]
    refine ⟨fun i n hn => crash_old hn (h.clean n (List.mem_of_getElem? hn)), .inl ⟨?_, n75⟩⟩
    rcases crash_names (D.tick wN t ⟨#[]⟩) f with hc | hc
    · rw [hc]; exact h.safe
    · rw [show (D.tick wN t ⟨#[]⟩).later = [] from h.later] at hc; cases hc
  · have hw : D.write t text 384 = (70, D.tick wN t ⟨#[]⟩) := call_err hs n70
    rw [hw, if_pos n70]
    exact same rfl rfl n70
  · have hw : D.write t text 384 = (71, D.tick wN t ⟨#[]⟩) := (call_run hs).trans (write__full (at_none_of (D := D.tick wN t ⟨#[]⟩) h.free) h.okt h.rt h.size (by decide))
    rw [hw, if_pos n71]
    exact same rfl rfl n71
/-- a Save that nothing breaks off -/
structure Saved (D D' : PDisk) (p t text : ByteArray) : Prop where
  names : D'.names = nm2 D p t
  safe : D'.safe = nm2 D p t
  later : D'.later = []
  inos : ∃ tm, D'.inos = D.inos ++ [⟨⟨⟨#[]⟩, 1, text, 384⟩, tm, false⟩]
  on : D'.off = false
  fates : D'.fates = D.fates
theorem save_free (h : SaveReady D p t text) (hf : D.fates = []) : (D.save p text).1 = 0 ∧ Saved D (D.save p text).2 p t text := by
  rw [save_eq h.beside]
  obtain ⟨k1, e1, g1⟩ := w1_write h wN t ⟨#[]⟩
  have hw : D.write t text 384 = (D.tick wN t ⟨#[]⟩).write_ false t text 384 := call_run (step_free wN t ⟨#[]⟩ h.on hf)
  rw [if_neg (by rw [hw, e1]; decide), hw]
  generalize ((D.tick wN t ⟨#[]⟩).write_ false t text 384).2 = E1 at k1 g1
  obtain ⟨k2, e2, g2⟩ := w1_sync h (w1_tick k1 sN t ⟨#[]⟩)
  have hy : E1.sync t = (E1.tick sN t ⟨#[]⟩).sync_ t := call_run (step_free sN t ⟨#[]⟩ k1.on (g1.trans hf))
  unfold fin2
  rw [if_neg (by rw [hy, e2]; decide), hy]
  have g2 : ((E1.tick sN t ⟨#[]⟩).sync_ t).2.fates = D.fates := g2.trans g1
  generalize ((E1.tick sN t ⟨#[]⟩).sync_ t).2 = E2 at k2 g2
  obtain ⟨k3, e3, g3⟩ := w3_replace h (w1_tick k2 rN t p)
  have hz : E2.replace t p = (E2.tick rN t p).replace_ t p := call_run (step_free rN t p k2.on (g2.trans hf))
  unfold fin3
  rw [if_neg (by rw [hz, e3]; decide), hz]
  have g3 : ((E2.tick rN t p).replace_ t p).2.fates = D.fates := g3.trans g2
  generalize ((E2.tick rN t p).replace_ t p).2 = E3 at k3 g3
  have hfl : E3.flush = (0, (E3.tick fN ⟨#[]⟩ ⟨#[]⟩).flush_) := call_run (step_free fN ⟨#[]⟩ ⟨#[]⟩ k3.on (g3.trans hf))
  rw [hfl]
  exact ⟨rfl, k3.names, k3.names, rfl, k3.inos, k3.on, g3⟩
end
end Go.Proofs.YtgcfkljooabjjaaGreatDoor

/- The plain laws of StoreWhole, StoreApart, StoreStays. Conditions: none beyond what each lemma states. -/
namespace Go.Proofs.YtgcfkljooabjjaaGreatDoor
open PDisk

def nmB : ByteArray := ⟨#[98]⟩
def tA : ByteArray := ⟨#[97, 126]⟩
def tB : ByteArray := ⟨#[98, 126]⟩
theorem besA : besideP nmA = tA := by decide +kernel
theorem besB : besideP nmB = tB := by decide +kernel
theorem okA : okPath (str nmA) = true := by decide +kernel
theorem okB : okPath (str nmB) = true := by decide +kernel
theorem oktA : okPath (str tA) = true := by decide +kernel
theorem oktB : okPath (str tB) = true := by decide +kernel
theorem parA : bs (parent (str nmA)) = ⟨#[]⟩ := by decide +kernel
theorem parB : bs (parent (str nmB)) = ⟨#[]⟩ := by decide +kernel
theorem partA : bs (parent (str tA)) = ⟨#[]⟩ := by decide +kernel
theorem partB : bs (parent (str tB)) = ⟨#[]⟩ := by decide +kernel
/-- nothing is there, or a file -/
def FileAt (D : PDisk) (x : ByteArray) : Prop := D.at_ x = none ∨ ∃ o, D.at_ x = some o ∧ o.node.kind = 1
theorem FileAt.dir {D : PDisk} {x : ByteArray} (h : FileAt D x) (hx : x ≠ ⟨#[]⟩) : D.dir x = false := by
  rcases h with h | ⟨o, h, hk⟩
  · exact dir_none hx h
  · exact dir_file hx h hk
theorem inode_set {D : PDisk} {i k : Nat} {n : Ino} : ({ D with inos := D.inos.set i n } : PDisk).inode k = D.inode k ∨ ({ D with inos := D.inos.set i n } : PDisk).inode k = some n := by
  unfold PDisk.inode
  split
  · exact .inl rfl
  · show (D.inos.set i n)[k - 1]? = _ ∨ (D.inos.set i n)[k - 1]? = _
    rw [List.getElem?_set]
    split
    · rename_i e
      subst e
      split
      · exact .inr rfl
      · rename_i hl
        left
        rw [List.getElem?_eq_none (by omega)]
    · exact .inl rfl
theorem FileAt.set {D : PDisk} {x : ByteArray} {i : Nat} {n : Ino} (h : FileAt D x) (hn : n.node.kind = 1) : FileAt { D with inos := D.inos.set i n } x := by
  unfold FileAt PDisk.at_
  show PDisk.inode _ (lookN D.names x) = none ∨ _
  rcases inode_set (D := D) (i := i) (k := lookN D.names x) (n := n) with h1 | h1
  · rw [h1]; exact h
  · exact .inr ⟨n, h1, hn⟩
theorem at_set {D : PDisk} {x : ByteArray} {o n : Ino} (h : D.at_ x = some o) : ({ D with inos := D.inos.set (lookN D.names x - 1) n } : PDisk).at_ x = some n := by
  unfold PDisk.at_ PDisk.inode at h ⊢
  show (if lookN D.names x = 0 then none else (D.inos.set (lookN D.names x - 1) n)[lookN D.names x - 1]?) = some n
  split at h
  · cases h
  · rename_i h0
    rw [if_neg h0, List.getElem?_set_self (List.getElem?_eq_some_iff.1 h).1]
section
variable {D E : PDisk} {p t text : ByteArray}
/-- behind the Write, on a disk without fates -/
theorem fin2_free {o : Ino} (hp : okPath (str p) = true) (ht : okPath (str t) = true) (rp : bs (parent (str p)) = ⟨#[]⟩) (hne : t ≠ p) (hoff : E.off = false) (hf : E.fates = []) (hat : E.at_ t = some o) (hk : o.node.kind = 1) (hfp : FileAt E p) :
    (fin2 t p (E.sync t)).1 = 0 ∧ (fin2 t p (E.sync t)).2.names = delN (putN E.names p (lookN E.names t)) t := by
  have hat1 : (E.tick sN t ⟨#[]⟩).at_ t = some o := hat
  have hy : E.sync t = (0, { E.tick sN t ⟨#[]⟩ with inos := E.inos.set (lookN E.names t - 1) { o with dirty := false } }) := (call_run (step_free sN t ⟨#[]⟩ hoff hf)).trans (sync__some ht hat1)
  rw [hy]
  unfold fin2
  rw [if_neg (by simp)]
  generalize hE2 : ({ E.tick sN t ⟨#[]⟩ with inos := E.inos.set (lookN E.names t - 1) { o with dirty := false } } : PDisk) = E2
  have hat2 : (E2.tick rN t p).at_ t = some { o with dirty := false } := by
    subst hE2
    exact at_set (D := E.tick sN t ⟨#[]⟩) hat1
  have hfp2 : FileAt (E2.tick rN t p) p := by
    subst hE2
    exact FileAt.set (D := E.tick sN t ⟨#[]⟩) hfp hk
  have hz : E2.replace t p = (0, (E2.tick rN t p).change (delN (putN E2.names p (lookN E2.names t)) t)) :=
    (call_run (step_free rN t p (by subst hE2; exact hoff) (by subst hE2; exact hf))).trans (replace__q ht hp rp hne hat2 (dir_file (ok_ne ht) hat2 hk) (hfp2.dir (ok_ne hp)))
  rw [hz]
  unfold fin3
  rw [if_neg (by simp)]
  have hn : E2.names = E.names := by subst hE2; rfl
  rw [hn]
  generalize hE3 : (E2.tick rN t p).change (delN (putN E.names p (lookN E.names t)) t) = E3
  have hfl : E3.flush = (0, (E3.tick fN ⟨#[]⟩ ⟨#[]⟩).flush_) := call_run (step_free fN ⟨#[]⟩ ⟨#[]⟩ (by subst hE3; subst hE2; exact hoff) (by subst hE3; subst hE2; exact hf))
  rw [hfl]
  refine ⟨rfl, ?_⟩
  subst hE3
  rfl
/-- a Save on a disk without fates: what the names are behind it -/
theorem save_names (hb : besideP p = t) (hp : okPath (str p) = true) (ht : okPath (str t) = true) (rp : bs (parent (str p)) = ⟨#[]⟩) (rt : bs (parent (str t)) = ⟨#[]⟩) (hne : t ≠ p) (hoff : D.off = false) (hf : D.fates = []) (hl : D.names.length < 1000) (hs : text.size ≤ 65536)
    (hft : FileAt D t) (hfp : FileAt D p) (hbd : ∀ x, lookN D.names x ≤ D.inos.length) :
    (D.save p text).1 = 0 ∧ ∃ k, (D.save p text).2.names = delN (putN (if (D.at_ t).isNone then putN D.names t k else D.names) p k) t := by
  rw [save_eq hb]
  rcases hft with h | ⟨o, h, hk⟩
  · have hw : D.write t text 384 = (0, ((D.tick wN t ⟨#[]⟩).make ⟨⟨#[]⟩, 1, text, 384⟩ (D.tick wN t ⟨#[]⟩).clock true).change (putN D.names t (D.inos.length + 1))) :=
      (call_run (step_free wN t ⟨#[]⟩ hoff hf)).trans (write__none (E := D.tick wN t ⟨#[]⟩) ht rt hs (by decide) h hl)
    rw [hw, if_neg (by simp)]
    generalize hE : ((D.tick wN t ⟨#[]⟩).make ⟨⟨#[]⟩, 1, text, 384⟩ (D.tick wN t ⟨#[]⟩).clock true).change (putN D.names t (D.inos.length + 1)) = E
    have hat : E.at_ t = some ⟨⟨⟨#[]⟩, 1, text, 384⟩, (D.tick wN t ⟨#[]⟩).clock, true⟩ := by
      subst hE
      unfold PDisk.at_ PDisk.inode
      show (if lookN (putN D.names t (D.inos.length + 1)) t = 0 then none else (D.inos ++ [_])[lookN (putN D.names t (D.inos.length + 1)) t - 1]?) = _
      rw [lookN_putN, if_pos rfl]
      simp
    have hfp2 : FileAt E p := by
      subst hE
      unfold FileAt PDisk.at_ PDisk.inode at hfp ⊢
      show (if lookN (putN D.names t (D.inos.length + 1)) p = 0 then none else (D.inos ++ [_])[lookN (putN D.names t (D.inos.length + 1)) p - 1]?) = none ∨ ∃ o, (if lookN (putN D.names t (D.inos.length + 1)) p = 0 then none else (D.inos ++ [_])[lookN (putN D.names t (D.inos.length + 1)) p - 1]?) = some o ∧ _
      rw [lookN_putN, if_neg hne]
      by_cases h0 : lookN D.names p = 0
      · rw [if_pos h0]; exact .inl rfl
      · rw [if_neg h0] at hfp ⊢
        rw [List.getElem?_append_left (by have := hbd p; omega)]
        exact hfp
    obtain ⟨h1, h2⟩ := fin2_free hp ht rp hne (by subst hE; exact hoff) (by subst hE; exact hf) hat rfl hfp2
    refine ⟨h1, D.inos.length + 1, ?_⟩
    rw [h2, h]
    subst hE
    show delN (putN (putN D.names t (D.inos.length + 1)) p (lookN (putN D.names t (D.inos.length + 1)) t)) t = _
    rw [lookN_putN, if_pos rfl]
    rfl
  · have hw : D.write t text 384 = (0, { D.tick wN t ⟨#[]⟩ with inos := D.inos.set (lookN D.names t - 1) ⟨⟨⟨#[]⟩, 1, text, 384⟩, (D.tick wN t ⟨#[]⟩).clock, true⟩ }) :=
      (call_run (step_free wN t ⟨#[]⟩ hoff hf)).trans (write__some (E := D.tick wN t ⟨#[]⟩) ht rt hs (by decide) h hk)
    rw [hw, if_neg (by simp)]
    obtain ⟨h1, h2⟩ := fin2_free (E := { D.tick wN t ⟨#[]⟩ with inos := D.inos.set (lookN D.names t - 1) ⟨⟨⟨#[]⟩, 1, text, 384⟩, (D.tick wN t ⟨#[]⟩).clock, true⟩ }) hp ht rp hne hoff hf (at_set (D := D.tick wN t ⟨#[]⟩) h) rfl (FileAt.set (D := D.tick wN t ⟨#[]⟩) hfp rfl)
    refine ⟨h1, lookN D.names t, ?_⟩
    rw [h2, h]
    rfl
/-- what Load finds -/
theorem load_file {n : Ino} (hp : okPath (str p) = true) (hoff : D.off = false) (hf : D.fates = []) (hat : D.at_ p = some n) (hk : n.node.kind = 1) : D.load p = ((n.node.data, true, 0), D.tick ⟨#[71, 101, 116]⟩ p ⟨#[]⟩) := by
  have hg : D.get p = ((0, { n.node with path := p }, (lookN D.names p : Int), (n.node.data.size : Int), n.time), D.tick ⟨#[71, 101, 116]⟩ p ⟨#[]⟩) := by
    unfold PDisk.get
    rw [step_free _ _ _ hoff hf]
    simp only [ne_eq, not_true_eq_false, if_false]
    unfold PDisk.get_
    have h2 : (D.tick ⟨#[71, 101, 116]⟩ p ⟨#[]⟩).at_ p = some n := hat
    rw [if_neg (ok_ne hp), no_ok hp]
    unfold PDisk.gone
    rw [h2]
    rfl
  unfold PDisk.load
  rw [hg]
  simp [hk]
theorem load_none (hp : okPath (str p) = true) (hoff : D.off = false) (hf : D.fates = []) (hat : D.at_ p = none) : D.load p = ((⟨#[]⟩, false, 0), D.tick ⟨#[71, 101, 116]⟩ p ⟨#[]⟩) := by
  have hg : D.get p = ((74, ⟨⟨#[]⟩, 0, ⟨#[]⟩, 0⟩, 0, 0, 0), D.tick ⟨#[71, 101, 116]⟩ p ⟨#[]⟩) := by
    unfold PDisk.get
    rw [step_free _ _ _ hoff hf]
    simp only [ne_eq, not_true_eq_false, if_false]
    unfold PDisk.get_
    have h2 : (D.tick ⟨#[71, 101, 116]⟩ p ⟨#[]⟩).at_ p = none := hat
    rw [if_neg (ok_ne hp), no_ok hp]
    unfold PDisk.gone
    rw [h2]
    rfl
  unfold PDisk.load
  rw [hg]
  simp
theorem get_file {n : Ino} (hp : okPath (str p) = true) (hoff : D.off = false) (hf : D.fates = []) (hat : D.at_ p = some n) : D.get p = ((0, { n.node with path := p }, (lookN D.names p : Int), (n.node.data.size : Int), n.time), D.tick ⟨#[71, 101, 116]⟩ p ⟨#[]⟩) := by
  unfold PDisk.get
  rw [step_free _ _ _ hoff hf]
  simp only [ne_eq, not_true_eq_false, if_false]
  unfold PDisk.get_
  have h2 : (D.tick ⟨#[71, 101, 116]⟩ p ⟨#[]⟩).at_ p = some n := hat
  rw [if_neg (ok_ne hp), no_ok hp]
  unfold PDisk.gone
  rw [h2]
  rfl
end

/-! ### StoreWhole -/
def other : ByteArray := ⟨#[111, 116, 104, 101, 114]⟩
section
variable {old text : ByteArray} {f : FateP}
def sw0 : PDisk := newD [⟨nmB, 1, other, 0⟩]
theorem sw_ready (h : old.size ≤ 65536) : SaveReady sw0 nmA tA old :=
  ⟨besA, okA, oktA, parA, partA, by decide, by decide +kernel, by decide +kernel, by decide +kernel, h, rfl, rfl, rfl, fun n hn => by simp [sw0, newD, newD'] at hn; subst hn; rfl⟩
/-- the disk behind the first Save -/
structure SW1 (D : PDisk) (old : ByteArray) : Prop where
  names : D.names = [(nmB, 1), (nmA, 2)]
  safe : D.safe = [(nmB, 1), (nmA, 2)]
  later : D.later = []
  inos : ∃ tm, D.inos = [⟨⟨nmB, 1, other, 0⟩, 0, false⟩, ⟨⟨⟨#[]⟩, 1, old, 384⟩, tm, false⟩]
theorem sw1 (h : old.size ≤ 65536) : (sw0.save nmA old).1 = 0 ∧ SW1 (sw0.save nmA old).2 old := by
  obtain ⟨h1, h2⟩ := save_free (sw_ready h) rfl
  have e : nm2 sw0 nmA tA = [(nmB, 1), (nmA, 2)] := by decide +kernel
  obtain ⟨tm, hi⟩ := h2.inos
  exact ⟨h1, ⟨h2.names.trans e, h2.safe.trans e, h2.later, tm, hi⟩⟩
theorem sw_ready2 {D : PDisk} (k : SW1 D old) (h : text.size ≤ 65536) : SaveReady (D.boot [f]) nmA tA text := by
  obtain ⟨tm, hi⟩ := k.inos
  have hat : (D.boot [f]).at_ nmA = some ⟨⟨⟨#[]⟩, 1, old, 384⟩, tm, false⟩ := by
    unfold PDisk.at_ PDisk.inode
    show (if lookN D.names nmA = 0 then none else D.inos[lookN D.names nmA - 1]?) = _
    rw [k.names, hi]; rfl
  refine ⟨besA, okA, oktA, parA, partA, by decide, ?_, dir_file (ok_ne okA) hat rfl, ?_, h, rfl, k.safe.trans k.names.symm, k.later, fun n hn => ?_⟩
  · show hasN D.names tA = false
    rw [k.names]; decide +kernel
  · show D.names.length < 1000
    rw [k.names]; decide
  · have hn : n ∈ D.inos := hn
    rw [hi] at hn
    simp at hn
    rcases hn with rfl | rfl <;> rfl
/-- what the rest of StoreWhole finds -/
structure SWEnd (D : PDisk) (old text : ByteArray) (e : Int) : Prop where
  a : ∃ n, (D.boot []).at_ nmA = some n ∧ n.node.kind = 1 ∧ ((n.node.data = old ∧ e ≠ 0) ∨ n.node.data = text)
  b : ∃ n, (D.boot []).at_ nmB = some n ∧ n.node.data = other
  t : FileAt D tA
  names : D.names = [(nmB, 1), (nmA, 2)] ∨ D.names = [(nmB, 1), (nmA, 2), (tA, 3)] ∨ D.names = [(nmB, 1), (nmA, 3)]
theorem sw_end {D : PDisk} (k : SW1 D old) (h : text.size ≤ 65536) : SWEnd ((D.boot [f]).save nmA text).2 old text ((D.boot [f]).save nmA text).1 := by
  have hm := save_mid (f := f) (sw_ready2 (f := f) k h) rfl
  generalize (D.boot [f]).save nmA text = r at hm
  obtain ⟨e, D'⟩ := r
  dsimp only at hm ⊢
  obtain ⟨tm, hi⟩ := k.inos
  have hi' : (D.boot [f]).inos = D.inos := rfl
  have h0 := hm.old 0 ⟨⟨nmB, 1, other, 0⟩, 0, false⟩ (by rw [hi', hi]; rfl)
  have h1 := hm.old 1 ⟨⟨⟨#[]⟩, 1, old, 384⟩, tm, false⟩ (by rw [hi', hi]; rfl)
  have hl : (D.boot [f]).inos.length = 2 := by rw [hi', hi]; rfl
  have hnn : (D.boot [f]).names = [(nmB, 1), (nmA, 2)] := k.names
  have e1 : nm1 (D.boot [f]) tA = [(nmB, 1), (nmA, 2), (tA, 3)] := by unfold nm1 newI; rw [hnn, hl]; decide +kernel
  have e2 : nm2 (D.boot [f]) nmA tA = [(nmB, 1), (nmA, 3)] := by unfold nm2 newI; rw [e1, hl]; decide +kernel
  have atx : ∀ (l : NameL) (x : ByteArray) (i : Nat) (n : Ino), D'.names = l → lookN l x = i + 1 → D'.inos[i]? = some n → D'.at_ x = some n := fun l x i n h2 h3 h4 => by
    unfold PDisk.at_ PDisk.inode
    rw [h2, h3, if_neg (by omega)]
    exact h4
  rcases hm.how with ⟨g, he⟩ | ⟨g, he, n, hn, hk⟩ | ⟨g, n, hn, hk, hd, -⟩
  · have g := g.trans hnn
    exact ⟨⟨_, atx _ nmA 1 _ g (by decide +kernel) h1, rfl, .inl ⟨rfl, he⟩⟩, ⟨_, atx _ nmB 0 _ g (by decide +kernel) h0, rfl⟩, .inl (at_none_of (by rw [g]; decide +kernel)), .inl g⟩
  · have g := g.trans e1
    rw [hl] at hn
    exact ⟨⟨_, atx _ nmA 1 _ g (by decide +kernel) h1, rfl, .inl ⟨rfl, he⟩⟩, ⟨_, atx _ nmB 0 _ g (by decide +kernel) h0, rfl⟩, .inr ⟨n, atx _ tA 2 _ g (by decide +kernel) hn, hk⟩, .inr (.inl g)⟩
  · have g := g.trans e2
    rw [hl] at hn
    exact ⟨⟨_, atx _ nmA 2 _ g (by decide +kernel) hn, hk, .inr hd⟩, ⟨_, atx _ nmB 0 _ g (by decide +kernel) h0, rfl⟩, .inl (at_none_of (by rw [g]; decide +kernel)), .inr (.inr g)⟩
end
end Go.Proofs.YtgcfkljooabjjaaGreatDoor

/- The plain laws of StoreApart and StoreStays. Conditions: none beyond what each lemma states. -/
namespace Go.Proofs.YtgcfkljooabjjaaGreatDoor
open PDisk

theorem at_of {D : PDisk} {l : NameL} {x : ByteArray} {i : Nat} {n : Ino} (h2 : D.names = l) (h3 : lookN l x = i + 1) (h4 : D.inos[i]? = some n) : D.at_ x = some n := by
  unfold PDisk.at_ PDisk.inode
  rw [h2, h3, if_neg (by omega)]
  exact h4
/-- what a Clear leaves -/
structure Cleared (D D' : PDisk) (p : ByteArray) : Prop where
  names : D'.names = delN D.names p
  safe : D'.safe = delN D.names p
  later : D'.later = []
  inos : D'.inos = D.inos
  on : D'.off = false
  fates : D'.fates = []
theorem clear_free {D : PDisk} {p : ByteArray} {o : Ino} (hp : okPath (str p) = true) (hoff : D.off = false) (hf : D.fates = []) (hat : D.at_ p = some o) (hi : D.inside p = false) : (D.clear p).1 = 0 ∧ Cleared D (D.clear p).2 p := by
  have hr : D.remove p = (0, (D.tick ⟨#[82, 101, 109, 111, 118, 101]⟩ p ⟨#[]⟩).change (delN D.names p)) :=
    (call_run (step_free _ p ⟨#[]⟩ hoff hf)).trans (remove__q (E := D.tick ⟨#[82, 101, 109, 111, 118, 101]⟩ p ⟨#[]⟩) hp hat hi)
  rw [clear_on (by rw [hr])]
  rw [hr]
  generalize hE : (D.tick ⟨#[82, 101, 109, 111, 118, 101]⟩ p ⟨#[]⟩).change (delN D.names p) = E3
  have hfl : E3.flush = (0, (E3.tick fN ⟨#[]⟩ ⟨#[]⟩).flush_) := call_run (step_free fN ⟨#[]⟩ ⟨#[]⟩ (by subst hE; exact hoff) (by subst hE; exact hf))
  dsimp only
  rw [hfl, if_neg (by show ¬ (0 : Int) = 74; decide)]
  subst hE
  exact ⟨rfl, rfl, rfl, rfl, rfl, hoff, hf⟩
theorem clear_none {D : PDisk} {p : ByteArray} (hp : okPath (str p) = true) (hoff : D.off = false) (hf : D.fates = []) (hat : D.at_ p = none) : D.clear p = (0, D.tick ⟨#[82, 101, 109, 111, 118, 101]⟩ p ⟨#[]⟩) := by
  have hr : D.remove p = (74, D.tick ⟨#[82, 101, 109, 111, 118, 101]⟩ p ⟨#[]⟩) := by
    refine (call_run (k := fun E _ => E.remove_ p) (step_free _ p ⟨#[]⟩ hoff hf)).trans ?_
    unfold PDisk.remove_ PDisk.gone
    rw [show (D.tick ⟨#[82, 101, 109, 111, 118, 101]⟩ p ⟨#[]⟩).at_ p = none from hat, no_ok hp]
    rfl
  rw [clear_gone (by rw [hr]), hr]

/-! ### StoreApart -/
section
variable {a b : ByteArray} {f : FateP}
structure SA1 (D : PDisk) (a : ByteArray) : Prop where
  names : D.names = [(nmA, 1)]
  safe : D.safe = [(nmA, 1)]
  later : D.later = []
  inos : ∃ tm, D.inos = [⟨⟨⟨#[]⟩, 1, a, 384⟩, tm, false⟩]
theorem sa_ready (h : a.size ≤ 65536) : SaveReady (newD []) nmA tA a :=
  ⟨besA, okA, oktA, parA, partA, by decide, rfl, by decide +kernel, by decide +kernel, h, rfl, rfl, rfl, fun n hn => by simp [newD, newD'] at hn⟩
theorem sa1 (h : a.size ≤ 65536) : ((newD []).save nmA a).1 = 0 ∧ SA1 ((newD []).save nmA a).2 a := by
  obtain ⟨h1, h2⟩ := save_free (sa_ready h) rfl
  have e : nm2 (newD []) nmA tA = [(nmA, 1)] := by decide +kernel
  obtain ⟨tm, hi⟩ := h2.inos
  exact ⟨h1, ⟨h2.names.trans e, h2.safe.trans e, h2.later, tm, hi⟩⟩
theorem sa_ready2 {D : PDisk} (k : SA1 D a) (h : b.size ≤ 65536) : SaveReady (D.boot [f]) nmB tB b := by
  obtain ⟨tm, hi⟩ := k.inos
  refine ⟨besB, okB, oktB, parB, partB, by decide, ?_, dir_none (ok_ne okB) (at_none_of ?_), ?_, h, rfl, k.safe.trans k.names.symm, k.later, fun n hn => ?_⟩
  · show hasN D.names tB = false
    rw [k.names]; decide +kernel
  · show hasN D.names nmB = false
    rw [k.names]; decide +kernel
  · show D.names.length < 1000
    rw [k.names]; decide
  · have hn : n ∈ D.inos := hn
    rw [hi] at hn
    simp at hn
    subst hn; rfl
/-- what the rest of StoreApart finds -/
structure SAEnd (D : PDisk) (a b : ByteArray) (e : Int) : Prop where
  a : ∃ n, D.at_ nmA = some n ∧ n.node.kind = 1 ∧ n.node.data = a
  b : (D.at_ nmB = none ∧ e ≠ 0) ∨ ∃ n, D.at_ nmB = some n ∧ n.node.kind = 1 ∧ n.node.data = b
  inside : D.inside nmA = false
theorem sa_end {D : PDisk} (k : SA1 D a) (h : b.size ≤ 65536) : SAEnd ((D.boot [f]).save nmB b).2 a b ((D.boot [f]).save nmB b).1 := by
  have hm := save_mid (f := f) (sa_ready2 (f := f) k h) rfl
  generalize (D.boot [f]).save nmB b = r at hm
  obtain ⟨e, D'⟩ := r
  dsimp only at hm ⊢
  obtain ⟨tm, hi⟩ := k.inos
  have hi' : (D.boot [f]).inos = D.inos := rfl
  have h0 := hm.old 0 ⟨⟨⟨#[]⟩, 1, a, 384⟩, tm, false⟩ (by rw [hi', hi]; rfl)
  have hl : (D.boot [f]).inos.length = 1 := by rw [hi', hi]; rfl
  have hnn : (D.boot [f]).names = [(nmA, 1)] := k.names
  have e1 : nm1 (D.boot [f]) tB = [(nmA, 1), (tB, 2)] := by unfold nm1 newI; rw [hnn, hl]; decide +kernel
  have e2 : nm2 (D.boot [f]) nmB tB = [(nmA, 1), (nmB, 2)] := by unfold nm2 newI; rw [e1, hl]; decide +kernel
  rcases hm.how with ⟨g, he⟩ | ⟨g, he, n, hn, hk⟩ | ⟨g, n, hn, hk, hd, -⟩
  · have g := g.trans hnn
    exact ⟨⟨_, at_of g (by decide +kernel) h0, rfl, rfl⟩, .inl ⟨at_none_of (by rw [g]; decide +kernel), he⟩, by unfold PDisk.inside; rw [g]; decide +kernel⟩
  · have g := g.trans e1
    exact ⟨⟨_, at_of g (by decide +kernel) h0, rfl, rfl⟩, .inl ⟨at_none_of (by rw [g]; decide +kernel), he⟩, by unfold PDisk.inside; rw [g]; decide +kernel⟩
  · have g := g.trans e2
    rw [hl] at hn
    exact ⟨⟨_, at_of g (by decide +kernel) h0, rfl, rfl⟩, .inr ⟨n, at_of g (by decide +kernel) hn, hk, hd⟩, by unfold PDisk.inside; rw [g]; decide +kernel⟩
end
theorem cleared_self {D D' : PDisk} {p : ByteArray} (h : Cleared D D' p) : D'.at_ p = none := by
  unfold PDisk.at_ PDisk.inode
  rw [h.names, lookN_delN, if_pos rfl, if_pos rfl]
theorem cleared_other {D D' : PDisk} {p x : ByteArray} (h : Cleared D D' p) (hx : p ≠ x) : D'.at_ x = D.at_ x := by
  unfold PDisk.at_ PDisk.inode
  rw [h.names, lookN_delN, if_neg hx, h.inos]

/-! ### StoreStays -/
structure Stay (D : PDisk) (o : Option ByteArray) : Prop where
  names : (o = none ∧ D.names = []) ∨ ∃ s i tm, o = some s ∧ D.names = [(nmA, i)] ∧ D.inode i = some ⟨⟨⟨#[]⟩, 1, s, 384⟩, tm, false⟩
  safe : D.safe = D.names
  later : D.later = []
  on : D.off = false
  fates : D.fates = []
  clean : Clean D
theorem stay_new : Stay (newD []) none := ⟨.inl ⟨rfl, rfl⟩, rfl, rfl, rfl, rfl, fun n hn => by simp [newD, newD'] at hn⟩
theorem Stay.at_ {D : PDisk} {o : Option ByteArray} (h : Stay D o) : (o = none ∧ D.at_ nmA = none) ∨ ∃ s tm, o = some s ∧ D.at_ nmA = some ⟨⟨⟨#[]⟩, 1, s, 384⟩, tm, false⟩ := by
  rcases h.names with ⟨h1, h2⟩ | ⟨s, i, tm, h1, h2, h3⟩
  · exact .inl ⟨h1, at_none_of (by rw [h2]; rfl)⟩
  · refine .inr ⟨s, tm, h1, ?_⟩
    unfold PDisk.at_
    rw [h2]
    exact h3
theorem Stay.tick {D : PDisk} {o : Option ByteArray} (h : Stay D o) (c p q : ByteArray) : Stay (D.tick c p q) o := ⟨h.names, h.safe, h.later, h.on, h.fates, h.clean⟩
theorem Stay.ready {D : PDisk} {o : Option ByteArray} {s : ByteArray} (h : Stay D o) (hs : s.size ≤ 65536) : SaveReady D nmA tA s := by
  refine ⟨besA, okA, oktA, parA, partA, by decide, ?_, ?_, ?_, hs, h.on, h.safe, h.later, h.clean⟩
  · rcases h.names with ⟨-, h2⟩ | ⟨_, i, _, -, h2, -⟩ <;> rw [h2]
    · rfl
    · show (decide (nmA = tA) || false) = false
      decide
  · rcases h.at_ with ⟨-, h2⟩ | ⟨_, _, -, h2⟩
    · exact dir_none (ok_ne okA) h2
    · exact dir_file (ok_ne okA) h2 rfl
  · rcases h.names with ⟨-, h2⟩ | ⟨_, i, _, -, h2, -⟩ <;> rw [h2] <;> simp
theorem Stay.save {D : PDisk} {o : Option ByteArray} {s : ByteArray} (h : Stay D o) (hs : s.size ≤ 65536) : (D.save nmA s).1 = 0 ∧ Stay (D.save nmA s).2 (some s) := by
  obtain ⟨h1, h2⟩ := save_free (h.ready hs) h.fates
  have e : nm2 D nmA tA = [(nmA, newI D)] := by
    unfold nm2 nm1
    rcases h.names with ⟨-, h2⟩ | ⟨_, i, _, -, h2, -⟩ <;> rw [h2] <;> rfl
  obtain ⟨tm, hi⟩ := h2.inos
  refine ⟨h1, ⟨.inr ⟨s, newI D, tm, rfl, h2.names.trans e, ?_⟩, h2.safe.trans h2.names.symm, h2.later, h2.on, h2.fates.trans h.fates, fun n hn => ?_⟩⟩
  · unfold PDisk.inode newI
    rw [if_neg (by omega), hi]
    simp
  · rw [hi] at hn
    rcases List.mem_append.1 hn with hn | hn
    · exact h.clean n hn
    · simp at hn; subst hn; rfl
/-- a crash at the first step, and the disk on again -/
theorem Stay.crash {D : PDisk} {o : Option ByteArray} {f : FateP} (h : Stay D o) (ha : f.at_ = 0) (hw : f.what = 3) : Stay ((D.boot [f]).flush.2.boot []) o := by
  have hs := step_crash (D := D.boot [f]) fN ⟨#[]⟩ ⟨#[]⟩ f rfl rfl ha hw
  have hy : (D.boot [f]).flush = (75, ((D.boot [f]).tick fN ⟨#[]⟩ ⟨#[]⟩).crash f) := call_err hs n75
  rw [hy]
  have hn : (((D.boot [f]).tick fN ⟨#[]⟩ ⟨#[]⟩).crash f).names = D.names := by
    rcases crash_names ((D.boot [f]).tick fN ⟨#[]⟩ ⟨#[]⟩) f with hc | hc
    · rw [hc]; exact h.safe
    · rw [show ((D.boot [f]).tick fN ⟨#[]⟩ ⟨#[]⟩).later = [] from h.later] at hc; cases hc
  refine ⟨?_, rfl, rfl, rfl, rfl, crash_clean _ f⟩
  rcases h.names with ⟨h1, h2⟩ | ⟨s, i, tm, h1, h2, h3⟩
  · exact .inl ⟨h1, hn.trans h2⟩
  · refine .inr ⟨s, i, tm, h1, hn.trans h2, ?_⟩
    have : (((D.boot [f]).tick fN ⟨#[]⟩ ⟨#[]⟩).crash f).inode i = (D.inode i).map (tear f.torn) := crash_inode _ f i
    show (((D.boot [f]).tick fN ⟨#[]⟩ ⟨#[]⟩).crash f).inode i = _
    rw [this, h3]
    rfl
theorem Stay.load {D : PDisk} {o : Option ByteArray} (h : Stay D o) : (D.load nmA).1 = (o.getD ⟨#[]⟩, o.isSome, 0) ∧ Stay (D.load nmA).2 o := by
  rcases h.at_ with ⟨h1, h2⟩ | ⟨s, tm, h1, h2⟩
  · rw [load_none okA h.on h.fates h2]
    subst h1
    exact ⟨rfl, h.tick _ _ _⟩
  · rw [load_file okA h.on h.fates h2 rfl]
    subst h1
    exact ⟨rfl, h.tick _ _ _⟩
theorem Stay.clear {D : PDisk} {o : Option ByteArray} (h : Stay D o) : (D.clear nmA).1 = 0 ∧ Stay (D.clear nmA).2 none := by
  rcases h.names with ⟨h1, h2⟩ | ⟨s, i, tm, h1, h2, h3⟩
  · rw [clear_none okA h.on h.fates (at_none_of (by rw [h2]; rfl))]
    subst h1
    exact ⟨rfl, h.tick _ _ _⟩
  · have hat : D.at_ nmA = some ⟨⟨⟨#[]⟩, 1, s, 384⟩, tm, false⟩ := by unfold PDisk.at_; rw [h2]; exact h3
    have hin : D.inside nmA = false := by unfold PDisk.inside; rw [h2]; rfl
    obtain ⟨h4, h5⟩ := clear_free okA h.on h.fates hat hin
    have e : delN D.names nmA = [] := by rw [h2]; rfl
    exact ⟨h4, ⟨.inl ⟨rfl, h5.names.trans e⟩, h5.safe.trans h5.names.symm, h5.later, h5.on, h5.fates, fun n hn => h.clean n (by rw [h5.inos] at hn; exact hn)⟩⟩
theorem Stay.empty {D : PDisk} (h : Stay D none) : D.names.length = 0 := by
  rcases h.names with ⟨h1, h2⟩ | ⟨s, i, tm, h1, _⟩
  · rw [h2]; rfl
  · cases h1
end Go.Proofs.YtgcfkljooabjjaaGreatDoor

/- A disk in a run: store's calls; hawserlaw10.awake: a closed walk. Conditions: the tables of unicode/utf8 are laid. -/
namespace Go.Proofs.YtgcfkljooabjjaaGreatDoor
open Go.RowKit Go.Op Go.Maps

section
variable {w0 w : World} {p n : Nat} {D : PDisk}
theorem run_save (h : Run w0 w p D n) (hn : n ≤ 100000) (path text : ByteArray) (hs : path.size ≤ 100000) :
    Calls Tryz.prog 22 #[.pointer (some ⟨p, 0, none⟩), .string path, .string text] w fun e w' => e = .returned (.int .i64 (D.save path text).1) ∧ Run w0 w' p (D.save path text).2 (n + 8) := by
  obtain ⟨G, h1, h2, h3, h4⟩ := h
  exact (dsave_call p n G D path text w h1 hn hs).mono fun e w' ⟨he, hT⟩ => ⟨he, Run.next h2 h3 h4 hT⟩
theorem run_clear (h : Run w0 w p D n) (hn : n ≤ 100000) (path : ByteArray) (hs : path.size ≤ 100000) :
    Calls Tryz.prog 25 #[.pointer (some ⟨p, 0, none⟩), .string path] w fun e w' => e = .returned (.int .i64 (D.clear path).1) ∧ Run w0 w' p (D.clear path).2 (n + 4) := by
  obtain ⟨G, h1, h2, h3, h4⟩ := h
  exact (dclear_call p n G D path w h1 hn hs).mono fun e w' ⟨he, hT⟩ => ⟨he, Run.next h2 h3 h4 hT⟩
theorem run_load (h : Run w0 w p D n) (hn : n ≤ 100000) (path : ByteArray) (hs : path.size ≤ 100000) :
    Calls Tryz.prog 23 #[.pointer (some ⟨p, 0, none⟩), .string path] w fun e w' => e = .returned (.tuple #[.string (D.load path).1.1, .bool (D.load path).1.2.1, .int .i64 (D.load path).1.2.2]) ∧ Run w0 w' p (D.load path).2 (n + 1) := by
  obtain ⟨G, h1, h2, h3, h4⟩ := h
  exact (dload_call p n G D path w h1 hn hs).mono fun e w' ⟨he, hT⟩ => ⟨he, Run.next h2 h3 h4 hT⟩
theorem run_steps (h : Run w0 w p D n) : Calls Tryz.prog 31 #[.pointer (some ⟨p, 0, none⟩)] w fun e w' => e = .returned (.int .i64 D.trace.length) ∧ Run w0 w' p D n := by
  have h' := h
  obtain ⟨G, h1, h2, h3, h4⟩ := h
  exact (dsteps_call p n G D w h1).mono fun e w' ⟨he, ho⟩ => ⟨he, h'.off ho⟩
/-- a tree has a node for each name -/
theorem run_tree_len (h : Run w0 w p D n) : D.tree.length = D.names.length := by
  obtain ⟨G, h1, _⟩ := h
  rw [h1.ok.tree h1.m.parts.names.1, List.length_map, sortN_len]
end
def as0 : Int × PDisk := (newD []).save nmA ⟨#[120]⟩
def as1 : (ByteArray × Bool × Int) × PDisk := as0.2.load nmA
theorem as0_e : as0.1 = 0 := by decide +kernel
theorem as1_e : as1.1 = (⟨#[120]⟩, true, 0) := by decide +kernel
theorem as1_n : as1.2.trace.length = 5 := by decide +kernel
set_option maxRecDepth 100000 in
set_option maxHeartbeats 8000000 in
theorem sawake_any (w : World) (hT : Tabs w) : Calls Tryz.prog 21 #[] w fun e w' => e = .returned (.bool true) ∧ Off [] w w' := by
  have HNEW := Lib.hid (run_new none [] 0 0 w w (Off.refl _ _) hT (fun h => absurd rfl h) rfl (Nat.le_refl _) (by decide +kernel) (fun n hn => by cases hn))
  clear hT
  go_enter Tryz.func21, Tryz.ntmps21
  go_wp2_with fail
  refine HNEW.out.mono ?_
  rintro e w1 ⟨gd, rfl, hr⟩
  have HR := Lib.hid hr
  clear hr HNEW
  go_wp2_with fail
  refine (run_save HR.out (by omega) nmA ⟨#[120]⟩ (by decide)).mono ?_
  rintro e w2 ⟨he, hr⟩
  rw [show ((newD []).save nmA ⟨#[120]⟩).1 = 0 from as0_e] at he
  subst he
  have HR2 := Lib.hid (show Run w w2 gd as0.2 8 from hr)
  clear hr HR
  go_wp2_with fail
  refine (run_load HR2.out (by omega) nmA (by decide)).mono ?_
  rintro e w3 ⟨he, hr⟩
  rw [show (as0.2.load nmA).1 = (⟨#[120]⟩, true, 0) from as1_e] at he
  dsimp only at he
  subst he
  have HR3 := Lib.hid (show Run w w3 gd as1.2 9 from hr)
  clear hr HR2
  go_wp2_with fail
  refine (run_steps HR3.out).mono ?_
  rintro e w4 ⟨he, hr⟩
  rw [as1_n] at he
  have he : e = .returned (.int .i64 5) := he
  subst he
  have HR4 := Lib.hid hr
  clear hr HR3
  have HBE := Lib.hid (beside_any nmA w4 (by decide))
  rw [besA] at HBE
  go_wp2_with fail
  refine HBE.out.mono ?_
  rintro e w5 ⟨rfl, ho5⟩
  unfold tA
  have HR5 := Lib.hid (HR4.out.off ho5)
  clear ho5 HBE HR4
  go_wp2_with fail
  go_ret
  exact ⟨rfl, HR5.out.since⟩
end Go.Proofs.YtgcfkljooabjjaaGreatDoor
