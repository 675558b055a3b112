/- Texts of this claim, one behind the other: Off OffAsk Off2 DOff. Conditions: what each lemma states. -/
import Derived.Test.YtgcfkljooabjjaaGreatDoorGf
import Derived.Test.YtgcfkljooabjjaaGreatDoorGe
/- A disk that is off: each call answers ErrOff and leaves it as it is. Conditions: what each contract states. -/
namespace Go.Proofs.YtgcfkljooabjjaaGreatDoor
open Go.RowKit Go.Op Go.Maps

theorem step_off {D : PDisk} (h : D.off = true) (c p q : ByteArray) : D.step c p q = (false, 75, D) := by unfold PDisk.step; rw [h]; rfl

theorem DS.off_to {w W w1 : World} {p n n1 : Nat} {G : Geo} {D D1 : PDisk} (_h : DS w p G D n) (hW : Off [] w W) (hT : DSTo W p G.parts w1 D1 n1) : DSTo w p G.parts w1 D1 n1 := by
  refine DSTo.step (hW.mono (fun _ _ h => by simp at h)) (fun _ hb => .inl hb) hT

set_option maxRecDepth 100000 in
set_option maxHeartbeats 4000000 in
theorem off_write (p n : Nat) (G : Geo) (D : PDisk) (path data : ByteArray) (mode : Int) (w : World) (h : DS w p G D n) (hn : n ≤ 1000000) (hoff : D.off = true) :
    Calls Tryz.prog 16 #[.pointer (some ⟨p, 0, none⟩), .string path, .string data, .int .i64 mode] w fun e w' => e = .returned (.int .i64 75) ∧ DSTo w p G.parts w' D (n + 1) := by
  have H := Lib.hid h
  have hst := fun (W : World) (ho : Off [] w W) => dstep_one p n G D ⟨#[87, 114, 105, 116, 101]⟩ path W (h.off ho) hn
  simp only [step_off hoff] at hst
  have HST := Lib.hid hst
  clear hst h
  go_enter Tryz.func16, Tryz.ntmps16
  go_wp2_with fail
  refine (HST.out w (Off.refl _ _)).mono ?_
  rintro e w1 ⟨rfl, hT⟩
  go_wp2_with fail
  go_ret
  exact ⟨rfl, hT⟩

set_option maxRecDepth 100000 in
set_option maxHeartbeats 4000000 in
theorem off_mkdir (p n : Nat) (G : Geo) (D : PDisk) (path : ByteArray) (w : World) (h : DS w p G D n) (hn : n ≤ 1000000) (hoff : D.off = true) :
    Calls Tryz.prog 72 #[.pointer (some ⟨p, 0, none⟩), .string path] w fun e w' => e = .returned (.int .i64 75) ∧ DSTo w p G.parts w' D (n + 1) := by
  have H := Lib.hid h
  have hst := fun (W : World) (ho : Off [] w W) => dstep_one p n G D ⟨#[77, 107, 100, 105, 114]⟩ path W (h.off ho) hn
  simp only [step_off hoff] at hst
  have HST := Lib.hid hst
  clear hst h
  go_enter Tryz.func72, Tryz.ntmps72
  go_wp2_with fail
  refine (HST.out w (Off.refl _ _)).mono ?_
  rintro e w1 ⟨rfl, hT⟩
  go_wp2_with fail
  go_ret
  exact ⟨rfl, hT⟩

set_option maxRecDepth 100000 in
set_option maxHeartbeats 4000000 in
theorem off_link (p n : Nat) (G : Geo) (D : PDisk) (path q : ByteArray) (w : World) (h : DS w p G D n) (hn : n ≤ 1000000) (hoff : D.off = true) :
    Calls Tryz.prog 73 #[.pointer (some ⟨p, 0, none⟩), .string path, .string q] w fun e w' => e = .returned (.int .i64 75) ∧ DSTo w p G.parts w' D (n + 1) := by
  have H := Lib.hid h
  have hst := fun (W : World) (ho : Off [] w W) => dstep_two p n G D ⟨#[76, 105, 110, 107]⟩ path q W (h.off ho) hn
  simp only [step_off hoff] at hst
  have HST := Lib.hid hst
  clear hst h
  go_enter Tryz.func73, Tryz.ntmps73
  go_wp2_with fail
  refine (HST.out w (Off.refl _ _)).mono ?_
  rintro e w1 ⟨rfl, hT⟩
  go_wp2_with fail
  go_ret
  exact ⟨rfl, hT⟩

set_option maxRecDepth 100000 in
set_option maxHeartbeats 4000000 in
theorem off_remove (p n : Nat) (G : Geo) (D : PDisk) (path : ByteArray) (w : World) (h : DS w p G D n) (hn : n ≤ 1000000) (hoff : D.off = true) :
    Calls Tryz.prog 64 #[.pointer (some ⟨p, 0, none⟩), .string path] w fun e w' => e = .returned (.int .i64 75) ∧ DSTo w p G.parts w' D (n + 1) := by
  have H := Lib.hid h
  have hst := fun (W : World) (ho : Off [] w W) => dstep_one p n G D ⟨#[82, 101, 109, 111, 118, 101]⟩ path W (h.off ho) hn
  simp only [step_off hoff] at hst
  have HST := Lib.hid hst
  clear hst h
  go_enter Tryz.func64, Tryz.ntmps64
  go_upto_region 1 with fail
  refine code_gen (fun W => Blk W w.heap.size 9 #[.string path] ∧ Off [] w W) ⟨Blk.new w _ _, (Off.refl _ _).alloc _⟩ ?_
  rintro W ⟨hbp, hof⟩
  have hcp := hbp.cell
  have HOF := Lib.hid hof
  clear hof hbp
  go_wp2_with fail
  refine (HST.out W HOF.out).mono ?_
  rintro e w1 ⟨rfl, hT⟩
  go_wp2_with fail
  go_ret
  exact ⟨rfl, H.out.off_to HOF.out hT⟩

set_option maxRecDepth 100000 in
set_option maxHeartbeats 4000000 in
theorem off_move (p n : Nat) (G : Geo) (D : PDisk) (path q : ByteArray) (w : World) (h : DS w p G D n) (hn : n ≤ 1000000) (hoff : D.off = true) :
    Calls Tryz.prog 74 #[.pointer (some ⟨p, 0, none⟩), .string path, .string q] w fun e w' => e = .returned (.int .i64 75) ∧ DSTo w p G.parts w' D (n + 1) := by
  have H := Lib.hid h
  have hst := fun (W : World) (ho : Off [] w W) => dstep_two p n G D ⟨#[77, 111, 118, 101]⟩ path q W (h.off ho) hn
  simp only [step_off hoff] at hst
  have HST := Lib.hid hst
  clear hst h
  go_enter Tryz.func74, Tryz.ntmps74
  go_upto_region 1 with fail
  refine code_gen (fun W => Blk W w.heap.size 9 #[.string path] ∧ Blk W (w.heap.size + 1) 9 #[.string q] ∧ Off [] w W)
    ⟨(Blk.new w _ _).alloc _, Blk.new1 w _ _ _, ((Off.refl _ _).alloc _).alloc _⟩ ?_
  rintro W ⟨hbp, hbq, hof⟩
  have hcp := hbp.cell
  have hcq := hbq.cell
  have HOF := Lib.hid hof
  clear hof hbp hbq
  go_wp2_with fail
  refine (HST.out W HOF.out).mono ?_
  rintro e w1 ⟨rfl, hT⟩
  go_wp2_with fail
  go_ret
  exact ⟨rfl, H.out.off_to HOF.out hT⟩

set_option maxRecDepth 100000 in
set_option maxHeartbeats 4000000 in
theorem off_replace (p n : Nat) (G : Geo) (D : PDisk) (path q : ByteArray) (w : World) (h : DS w p G D n) (hn : n ≤ 1000000) (hoff : D.off = true) :
    Calls Tryz.prog 18 #[.pointer (some ⟨p, 0, none⟩), .string path, .string q] w fun e w' => e = .returned (.int .i64 75) ∧ DSTo w p G.parts w' D (n + 1) := by
  have H := Lib.hid h
  have hst := fun (W : World) (ho : Off [] w W) => dstep_two p n G D ⟨#[82, 101, 112, 108, 97, 99, 101]⟩ path q W (h.off ho) hn
  simp only [step_off hoff] at hst
  have HST := Lib.hid hst
  clear hst h
  go_enter Tryz.func18, Tryz.ntmps18
  go_upto_region 1 with fail
  refine code_gen (fun W => Blk W w.heap.size 9 #[.string path] ∧ Blk W (w.heap.size + 1) 9 #[.string q] ∧ Off [] w W)
    ⟨(Blk.new w _ _).alloc _, Blk.new1 w _ _ _, ((Off.refl _ _).alloc _).alloc _⟩ ?_
  rintro W ⟨hbp, hbq, hof⟩
  have hcp := hbp.cell
  have hcq := hbq.cell
  have HOF := Lib.hid hof
  clear hof hbp hbq
  go_wp2_with fail
  refine (HST.out W HOF.out).mono ?_
  rintro e w1 ⟨rfl, hT⟩
  go_wp2_with fail
  go_ret
  exact ⟨rfl, H.out.off_to HOF.out hT⟩

set_option maxRecDepth 100000 in
set_option maxHeartbeats 4000000 in
theorem off_sync (p n : Nat) (G : Geo) (D : PDisk) (path : ByteArray) (w : World) (h : DS w p G D n) (hn : n ≤ 1000000) (hoff : D.off = true) :
    Calls Tryz.prog 17 #[.pointer (some ⟨p, 0, none⟩), .string path] w fun e w' => e = .returned (.int .i64 75) ∧ DSTo w p G.parts w' D (n + 1) := by
  have H := Lib.hid h
  have hst := fun (W : World) (ho : Off [] w W) => dstep_one p n G D ⟨#[83, 121, 110, 99]⟩ path W (h.off ho) hn
  simp only [step_off hoff] at hst
  have HST := Lib.hid hst
  clear hst h
  go_enter Tryz.func17, Tryz.ntmps17
  go_wp2_with fail
  refine (HST.out w (Off.refl _ _)).mono ?_
  rintro e w1 ⟨rfl, hT⟩
  go_wp2_with fail
  go_ret
  exact ⟨rfl, hT⟩

set_option maxRecDepth 100000 in
set_option maxHeartbeats 4000000 in
theorem off_names (p n : Nat) (G : Geo) (D : PDisk) (path : ByteArray) (w : World) (h : DS w p G D n) (hn : n ≤ 1000000) (hoff : D.off = true) :
    Calls Tryz.prog 37 #[.pointer (some ⟨p, 0, none⟩), .string path] w fun e w' => e = .returned (.tuple #[.slice none 0 0, .int .i64 75]) ∧ DSTo w p G.parts w' D (n + 1) := by
  have H := Lib.hid h
  have hst := fun (W : World) (ho : Off [] w W) => dstep_one p n G D ⟨#[78, 97, 109, 101, 115]⟩ path W (h.off ho) hn
  simp only [step_off hoff] at hst
  have HST := Lib.hid hst
  clear hst h
  go_enter Tryz.func37, Tryz.ntmps37
  go_wp2_with fail
  refine (HST.out w (Off.refl _ _)).mono ?_
  rintro e w1 ⟨rfl, hT⟩
  go_wp2_with fail
  refine bodyPost_ret (v := .tuple #[.slice none 0 0, .int .i64 75]) ?_ rfl ⟨rfl, hT⟩
  have hres : Tryz.f37.results = #[.tmp 4, .tmp 5] := rfl
  simp only [results, hres]
  go_simp

theorem off_flush (p n : Nat) (G : Geo) (D : PDisk) (w : World) (h : DS w p G D n) (hn : n ≤ 1000000) (hoff : D.off = true) :
    Calls Tryz.prog 19 #[.pointer (some ⟨p, 0, none⟩)] w fun e w' => e = .returned (.int .i64 75) ∧ DSTo w p G.parts w' D (n + 1) := by
  have hf : D.flush = (75, D) := by
    unfold PDisk.flush
    rw [call_err (step_off hoff _ _ _) n75]
  refine (flush_call p n G D w h hn).mono ?_
  rw [hf]
  rintro e w' ⟨he, G1, h1, ho, hp⟩
  exact ⟨he, G1, ⟨h1.m, h1.sb, PDisk.ok_mono h.ok (by omega), h1.tabs⟩, ho, hp⟩

set_option maxRecDepth 100000 in
set_option maxHeartbeats 4000000 in
theorem off_get (p n : Nat) (G : Geo) (D : PDisk) (path : ByteArray) (w : World) (h : DS w p G D n) (hn : n ≤ 1000000) (hoff : D.off = true) :
    Calls Tryz.prog 20 #[.pointer (some ⟨p, 0, none⟩), .string path] w fun e w' => e = .returned (.tuple #[.agg #[.string ⟨#[]⟩, .int .i64 0, .string ⟨#[]⟩, .int .i64 0], .agg #[.int .i64 0, .int .i64 0, .int .i64 0], .int .i64 75]) ∧ DSTo w p G.parts w' D (n + 1) := by
  have H := Lib.hid h
  have hst := fun (W : World) (ho : Off [] w W) => dstep_one p n G D ⟨#[71, 101, 116]⟩ path W (h.off ho) hn
  simp only [step_off hoff] at hst
  have HSTEP := Lib.hid hst
  clear hst h
  go_enter Tryz.func20, Tryz.ntmps20
  go_upto_region 1 with fail
  refine code_gen (fun W => Blk W w.heap.size 30 #[.string ⟨#[]⟩, .int .i64 0, .string ⟨#[]⟩, .int .i64 0] ∧ Blk W (w.heap.size + 1) 39 #[.int .i64 0, .int .i64 0, .int .i64 0] ∧ Off [] w W ∧ w.heap.size + 1 < W.heap.size)
    ⟨(Blk.new w _ _).alloc _, Blk.new1 w _ _ _, ((Off.refl _ _).alloc _).alloc _, by simp⟩ ?_
  rintro W ⟨hbn, hbs, hof, hsz⟩
  have HBN := Lib.hid hbn
  have HBS := Lib.hid hbs
  have HOF := Lib.hid hof
  have HSZ := Lib.hid hsz
  clear hbn hbs hof hsz
  go_wp2_with fail
  refine (HSTEP.out W HOF.out).mono ?_
  rintro e w1 ⟨rfl, hT⟩
  have HT := Lib.hid hT
  obtain ⟨G1, h1, ho1, hp1⟩ := hT
  have hno : ∀ b, w.heap.size ≤ b → b < W.heap.size → b ∉ p :: G.parts := fun b hb _ hm => by
    rcases List.mem_cons.1 hm with rfl | hm
    · have := H.out.m.blk.lt; omega
    · have := H.out.m.parts.lt hm; omega
  have hbn1 := HBN.out.off ho1 (hno _ (Nat.le_refl _) (by have := HSZ.out; omega))
  have hbs1 := HBS.out.off ho1 (hno _ (by omega) HSZ.out)
  have HBN1 := Lib.hid hbn1
  have HBS1 := Lib.hid hbs1
  have HKK := Lib.hid (show ∀ b ∈ [w.heap.size, w.heap.size + 1], w.heap.size ≤ b ∧ b < W.heap.size from fun b hb => by
    have := HSZ.out
    simp at hb
    omega)
  clear h1 ho1 hp1 hno HSTEP
  have hcn := hbn1.cell
  have hfn := hbn1.frozen
  have hln := hbn1.lt
  have hcs := hbs1.cell
  have hfs := hbs1.frozen
  have hls := hbs1.lt
  clear hbn1 hbs1
  go_wp2_with fail
  obtain ⟨k1, k2, k3⟩ := put7 (a := .string ⟨#[]⟩) (b := .int .i64 0) (c := .string ⟨#[]⟩) (d := .int .i64 0) (x := .int .i64 0) (y := .int .i64 0) (z := .int .i64 0) HBN1.out HBS1.out
  have hc1 := k1.cell
  have hc2 := k2.cell
  have K3 := Lib.hid k3
  clear k1 k2 k3 hcn hfn hln hcs hfs hls
  refine bodyPost_ret (v := .tuple #[.agg #[.string ⟨#[]⟩, .int .i64 0, .string ⟨#[]⟩, .int .i64 0], .agg #[.int .i64 0, .int .i64 0, .int .i64 0], .int .i64 75]) ?_ rfl ?_
  · have hres : Tryz.f20.results = #[.cell 4 30, .cell 5 39, .tmp 6] := rfl
    simp only [results, hres]
    go_simp
  · exact ⟨rfl, DSTo.own H.out HOF.out HT.out K3.out HKK.out⟩

end Go.Proofs.YtgcfkljooabjjaaGreatDoor

/- hawserlaw07.ask over a disk that is off: it answers ErrOff and zero values; the disk stays. Conditions: what each contract states. -/
namespace Go.Proofs.YtgcfkljooabjjaaGreatDoor
open Go.RowKit Go.Op Go.Maps

structure CallP where
  what : Int
  path : ByteArray
  to_ : ByteArray
  data : ByteArray
  mode : Int
def callV (c : CallP) : Value := .agg #[.int .i64 c.what, .string c.path, .string c.to_, .string c.data, .int .i64 c.mode]
theorem Blk.new3' (w : World) (o p q : Obj) (t : TypeId) (cs : Array Value) : Blk ((((w.alloc o).alloc p).alloc q).alloc (.cells cs t)) (w.heap.size + 3) t cs := by
  have := Blk.new (((w.alloc o).alloc p).alloc q) t cs
  simpa using this
theorem Blk.new4' (w : World) (o p q r : Obj) (t : TypeId) (cs : Array Value) : Blk (((((w.alloc o).alloc p).alloc q).alloc r).alloc (.cells cs t)) (w.heap.size + 4) t cs := by
  have := Blk.new ((((w.alloc o).alloc p).alloc q).alloc r) t cs
  simpa using this
set_option maxRecDepth 100000 in
set_option maxHeartbeats 16000000 in
theorem ask_off (p n : Nat) (G : Geo) (D : PDisk) (c : CallP) (w : World) (h : DS w p G D n) (hn : n ≤ 1000000) (hoff : D.off = true) (h10 : c.what ≠ 10) :
    Calls Tryz.prog 35 #[.pointer (some ⟨p, 0, none⟩), callV c] w fun e w' => (∃ k : Int, e = .returned (.tuple #[.int .i64 k, .agg #[.string ⟨#[]⟩, .int .i64 0, .string ⟨#[]⟩, .int .i64 0], .agg #[.int .i64 0, .int .i64 0, .int .i64 0], .slice none 0 0]) ∧ (0 ≤ c.what → c.what ≤ 9 → k = 75)) ∧ DSTo w p G.parts w' D (n + 1) := by
  obtain ⟨what, path, q, data, mode⟩ := c
  have H := Lib.hid h
  have HN := Lib.hid hn
  have HOFF := Lib.hid hoff
  have h10 : what ≠ 10 := h10
  show Calls Tryz.prog 35 #[.pointer (some ⟨p, 0, none⟩), .agg #[.int .i64 what, .string path, .string q, .string data, .int .i64 mode]] w fun e w' => (∃ k : Int, e = .returned (.tuple #[.int .i64 k, .agg #[.string ⟨#[]⟩, .int .i64 0, .string ⟨#[]⟩, .int .i64 0], .agg #[.int .i64 0, .int .i64 0, .int .i64 0], .slice none 0 0]) ∧ (0 ≤ what → what ≤ 9 → k = 75)) ∧ DSTo w p G.parts w' D (n + 1)
  clear h hn hoff
  go_enter Tryz.func35, Tryz.ntmps35
  go_upto_region 5 with fail
  refine code_gen (fun W => Blk W w.heap.size 77 #[.int .i64 what, .string path, .string q, .string data, .int .i64 mode] ∧ Blk W (w.heap.size + 1) 30 #[.string ⟨#[]⟩, .int .i64 0, .string ⟨#[]⟩, .int .i64 0] ∧ Blk W (w.heap.size + 2) 39 #[.int .i64 0, .int .i64 0, .int .i64 0] ∧ Blk W (w.heap.size + 3) 30 #[.string ⟨#[]⟩, .int .i64 0, .string ⟨#[]⟩, .int .i64 0] ∧ Blk W (w.heap.size + 4) 39 #[.int .i64 0, .int .i64 0, .int .i64 0] ∧ Off [] w W ∧ w.heap.size + 4 < W.heap.size)
    ⟨((((Blk.new w _ _).alloc _).alloc _).alloc _).alloc _, (((Blk.new1 w _ _ _).alloc _).alloc _).alloc _, ((Blk.new2 w _ _ _ _).alloc _).alloc _, (Blk.new3' w _ _ _ _ _).alloc _, Blk.new4' w _ _ _ _ _ _, (((((Off.refl _ _).alloc _).alloc _).alloc _).alloc _).alloc _, by simp⟩ ?_
  rintro W ⟨hb0, hb1, hb2, hb3, hb4, hof, hsz⟩
  have HB1 := Lib.hid hb1
  have HB2 := Lib.hid hb2
  have HB3 := Lib.hid hb3
  have HB4 := Lib.hid hb4
  have HOF := Lib.hid hof
  have HSZ := Lib.hid hsz
  have hc0 := hb0.cell
  have HNO := Lib.hid (show ∀ b, w.heap.size ≤ b → b < W.heap.size → b ∉ p :: G.parts from fun b hb _ hm => by
    rcases List.mem_cons.1 hm with rfl | hm
    · have := H.out.m.blk.lt; omega
    · have := H.out.m.parts.lt hm; omega)
  have HKK := Lib.hid (show ∀ b ∈ [w.heap.size + 1, w.heap.size + 2, w.heap.size + 3, w.heap.size + 4], w.heap.size ≤ b ∧ b < W.heap.size from fun b hb => by
    have := HSZ.out
    simp at hb
    omega)
  clear hb0 hb1 hb2 hb3 hb4 hof hsz
  by_cases hk0 : what = 0
  · subst hk0
    have hop := Lib.hid (off_write p n G D path data mode W (H.out.off HOF.out) HN.out HOFF.out)
    go_wp2_with fail
    refine hop.out.mono ?_
    rintro e w1 ⟨rfl, hT⟩
    have HT := Lib.hid hT
    clear hT hop
    obtain ⟨G1, h1, ho1, hp1⟩ := HT.out
    have hb1 := HB1.out.off ho1 (HNO.out _ (by omega) (by have := HSZ.out; omega))
    have hb2 := HB2.out.off ho1 (HNO.out _ (by omega) (by have := HSZ.out; omega))
    have hb3 := HB3.out.off ho1 (HNO.out _ (by omega) (by have := HSZ.out; omega))
    have hb4 := HB4.out.off ho1 (HNO.out _ (by omega) (by have := HSZ.out; omega))
    clear h1 ho1 hp1
    go_upto_region 28 with fail
    refine code_gen (fun W2 => Blk W2 (w.heap.size + 1) 30 #[.string ⟨#[]⟩, .int .i64 0, .string ⟨#[]⟩, .int .i64 0] ∧ Blk W2 (w.heap.size + 2) 39 #[.int .i64 0, .int .i64 0, .int .i64 0] ∧ Blk W2 (w.heap.size + 3) 30 #[.string ⟨#[]⟩, .int .i64 0, .string ⟨#[]⟩, .int .i64 0] ∧ Blk W2 (w.heap.size + 4) 39 #[.int .i64 0, .int .i64 0, .int .i64 0] ∧ Off [w.heap.size + 3, w.heap.size + 4] w1 W2) ⟨hb1, hb2, hb3, hb4, Off.refl _ _⟩ ?_
    clear hb1 hb2 hb3 hb4
    rintro W2 ⟨hb1, hb2, hb3, hb4, ho2⟩
    have hc1 := hb1.cell
    have hf1 := hb1.frozen
    have hl1 := hb1.lt
    have HC1 := Lib.hid hb1
    have hc2 := hb2.cell
    have hf2 := hb2.frozen
    have hl2 := hb2.lt
    have HC2 := Lib.hid hb2
    have hc3 := hb3.cell
    have hc4 := hb4.cell
    have HO2 := Lib.hid ho2
    clear hb1 hb2 hb3 hb4 ho2
    go_region
    obtain ⟨k1, k2, k3⟩ := put7 (a := .string ⟨#[]⟩) (b := .int .i64 0) (c := .string ⟨#[]⟩) (d := .int .i64 0) (x := .int .i64 0) (y := .int .i64 0) (z := .int .i64 0) HC1.out HC2.out
    have he1 := k1.drew.cell
    have he2 := k2.drew.cell
    have K3 := Lib.hid k3.drew
    clear k1 k2 k3 hc1 hf1 hl1 hc2 hf2 hl2 hc3 hc4
    go_wp2_with fail
    refine bodyPost_ret (v := .tuple #[.int .i64 75, .agg #[.string ⟨#[]⟩, .int .i64 0, .string ⟨#[]⟩, .int .i64 0], .agg #[.int .i64 0, .int .i64 0, .int .i64 0], .slice none 0 0]) ?_ rfl ?_
    · have hres : Tryz.f35.results = #[.tmp 4, .cell 5 30, .cell 6 39, .tmp 7] := rfl
      simp only [results, hres]
      go_simp
    · exact ⟨⟨75, rfl, fun _ _ => rfl⟩, DSTo.own H.out HOF.out HT.out ((HO2.out.mono (fun _ _ h => by simp at h ⊢; omega)).trans (K3.out.mono (fun _ _ h => by simp at h ⊢; omega)) (fun _ _ h => h)) HKK.out⟩
  by_cases hk1 : what = 1
  · subst hk1
    have hop := Lib.hid (off_mkdir p n G D path W (H.out.off HOF.out) HN.out HOFF.out)
    go_wp2_with fail
    refine hop.out.mono ?_
    rintro e w1 ⟨rfl, hT⟩
    have HT := Lib.hid hT
    clear hT hop
    obtain ⟨G1, h1, ho1, hp1⟩ := HT.out
    have hb1 := HB1.out.off ho1 (HNO.out _ (by omega) (by have := HSZ.out; omega))
    have hb2 := HB2.out.off ho1 (HNO.out _ (by omega) (by have := HSZ.out; omega))
    have hb3 := HB3.out.off ho1 (HNO.out _ (by omega) (by have := HSZ.out; omega))
    have hb4 := HB4.out.off ho1 (HNO.out _ (by omega) (by have := HSZ.out; omega))
    clear h1 ho1 hp1
    go_upto_region 28 with fail
    refine code_gen (fun W2 => Blk W2 (w.heap.size + 1) 30 #[.string ⟨#[]⟩, .int .i64 0, .string ⟨#[]⟩, .int .i64 0] ∧ Blk W2 (w.heap.size + 2) 39 #[.int .i64 0, .int .i64 0, .int .i64 0] ∧ Blk W2 (w.heap.size + 3) 30 #[.string ⟨#[]⟩, .int .i64 0, .string ⟨#[]⟩, .int .i64 0] ∧ Blk W2 (w.heap.size + 4) 39 #[.int .i64 0, .int .i64 0, .int .i64 0] ∧ Off [w.heap.size + 3, w.heap.size + 4] w1 W2) ⟨hb1, hb2, hb3, hb4, Off.refl _ _⟩ ?_
    clear hb1 hb2 hb3 hb4
    rintro W2 ⟨hb1, hb2, hb3, hb4, ho2⟩
    have hc1 := hb1.cell
    have hf1 := hb1.frozen
    have hl1 := hb1.lt
    have HC1 := Lib.hid hb1
    have hc2 := hb2.cell
    have hf2 := hb2.frozen
    have hl2 := hb2.lt
    have HC2 := Lib.hid hb2
    have hc3 := hb3.cell
    have hc4 := hb4.cell
    have HO2 := Lib.hid ho2
    clear hb1 hb2 hb3 hb4 ho2
    go_region
    obtain ⟨k1, k2, k3⟩ := put7 (a := .string ⟨#[]⟩) (b := .int .i64 0) (c := .string ⟨#[]⟩) (d := .int .i64 0) (x := .int .i64 0) (y := .int .i64 0) (z := .int .i64 0) HC1.out HC2.out
    have he1 := k1.drew.cell
    have he2 := k2.drew.cell
    have K3 := Lib.hid k3.drew
    clear k1 k2 k3 hc1 hf1 hl1 hc2 hf2 hl2 hc3 hc4
    go_wp2_with fail
    refine bodyPost_ret (v := .tuple #[.int .i64 75, .agg #[.string ⟨#[]⟩, .int .i64 0, .string ⟨#[]⟩, .int .i64 0], .agg #[.int .i64 0, .int .i64 0, .int .i64 0], .slice none 0 0]) ?_ rfl ?_
    · have hres : Tryz.f35.results = #[.tmp 4, .cell 5 30, .cell 6 39, .tmp 7] := rfl
      simp only [results, hres]
      go_simp
    · exact ⟨⟨75, rfl, fun _ _ => rfl⟩, DSTo.own H.out HOF.out HT.out ((HO2.out.mono (fun _ _ h => by simp at h ⊢; omega)).trans (K3.out.mono (fun _ _ h => by simp at h ⊢; omega)) (fun _ _ h => h)) HKK.out⟩
  by_cases hk2 : what = 2
  · subst hk2
    have hop := Lib.hid (off_link p n G D path q W (H.out.off HOF.out) HN.out HOFF.out)
    go_wp2_with fail
    refine hop.out.mono ?_
    rintro e w1 ⟨rfl, hT⟩
    have HT := Lib.hid hT
    clear hT hop
    obtain ⟨G1, h1, ho1, hp1⟩ := HT.out
    have hb1 := HB1.out.off ho1 (HNO.out _ (by omega) (by have := HSZ.out; omega))
    have hb2 := HB2.out.off ho1 (HNO.out _ (by omega) (by have := HSZ.out; omega))
    have hb3 := HB3.out.off ho1 (HNO.out _ (by omega) (by have := HSZ.out; omega))
    have hb4 := HB4.out.off ho1 (HNO.out _ (by omega) (by have := HSZ.out; omega))
    clear h1 ho1 hp1
    go_upto_region 28 with fail
    refine code_gen (fun W2 => Blk W2 (w.heap.size + 1) 30 #[.string ⟨#[]⟩, .int .i64 0, .string ⟨#[]⟩, .int .i64 0] ∧ Blk W2 (w.heap.size + 2) 39 #[.int .i64 0, .int .i64 0, .int .i64 0] ∧ Blk W2 (w.heap.size + 3) 30 #[.string ⟨#[]⟩, .int .i64 0, .string ⟨#[]⟩, .int .i64 0] ∧ Blk W2 (w.heap.size + 4) 39 #[.int .i64 0, .int .i64 0, .int .i64 0] ∧ Off [w.heap.size + 3, w.heap.size + 4] w1 W2) ⟨hb1, hb2, hb3, hb4, Off.refl _ _⟩ ?_
    clear hb1 hb2 hb3 hb4
    rintro W2 ⟨hb1, hb2, hb3, hb4, ho2⟩
    have hc1 := hb1.cell
    have hf1 := hb1.frozen
    have hl1 := hb1.lt
    have HC1 := Lib.hid hb1
    have hc2 := hb2.cell
    have hf2 := hb2.frozen
    have hl2 := hb2.lt
    have HC2 := Lib.hid hb2
    have hc3 := hb3.cell
    have hc4 := hb4.cell
    have HO2 := Lib.hid ho2
    clear hb1 hb2 hb3 hb4 ho2
    go_region
    obtain ⟨k1, k2, k3⟩ := put7 (a := .string ⟨#[]⟩) (b := .int .i64 0) (c := .string ⟨#[]⟩) (d := .int .i64 0) (x := .int .i64 0) (y := .int .i64 0) (z := .int .i64 0) HC1.out HC2.out
    have he1 := k1.drew.cell
    have he2 := k2.drew.cell
    have K3 := Lib.hid k3.drew
    clear k1 k2 k3 hc1 hf1 hl1 hc2 hf2 hl2 hc3 hc4
    go_wp2_with fail
    refine bodyPost_ret (v := .tuple #[.int .i64 75, .agg #[.string ⟨#[]⟩, .int .i64 0, .string ⟨#[]⟩, .int .i64 0], .agg #[.int .i64 0, .int .i64 0, .int .i64 0], .slice none 0 0]) ?_ rfl ?_
    · have hres : Tryz.f35.results = #[.tmp 4, .cell 5 30, .cell 6 39, .tmp 7] := rfl
      simp only [results, hres]
      go_simp
    · exact ⟨⟨75, rfl, fun _ _ => rfl⟩, DSTo.own H.out HOF.out HT.out ((HO2.out.mono (fun _ _ h => by simp at h ⊢; omega)).trans (K3.out.mono (fun _ _ h => by simp at h ⊢; omega)) (fun _ _ h => h)) HKK.out⟩
  by_cases hk3 : what = 3
  · subst hk3
    have hop := Lib.hid (off_remove p n G D path W (H.out.off HOF.out) HN.out HOFF.out)
    go_wp2_with fail
    refine hop.out.mono ?_
    rintro e w1 ⟨rfl, hT⟩
    have HT := Lib.hid hT
    clear hT hop
    obtain ⟨G1, h1, ho1, hp1⟩ := HT.out
    have hb1 := HB1.out.off ho1 (HNO.out _ (by omega) (by have := HSZ.out; omega))
    have hb2 := HB2.out.off ho1 (HNO.out _ (by omega) (by have := HSZ.out; omega))
    have hb3 := HB3.out.off ho1 (HNO.out _ (by omega) (by have := HSZ.out; omega))
    have hb4 := HB4.out.off ho1 (HNO.out _ (by omega) (by have := HSZ.out; omega))
    clear h1 ho1 hp1
    go_upto_region 28 with fail
    refine code_gen (fun W2 => Blk W2 (w.heap.size + 1) 30 #[.string ⟨#[]⟩, .int .i64 0, .string ⟨#[]⟩, .int .i64 0] ∧ Blk W2 (w.heap.size + 2) 39 #[.int .i64 0, .int .i64 0, .int .i64 0] ∧ Blk W2 (w.heap.size + 3) 30 #[.string ⟨#[]⟩, .int .i64 0, .string ⟨#[]⟩, .int .i64 0] ∧ Blk W2 (w.heap.size + 4) 39 #[.int .i64 0, .int .i64 0, .int .i64 0] ∧ Off [w.heap.size + 3, w.heap.size + 4] w1 W2) ⟨hb1, hb2, hb3, hb4, Off.refl _ _⟩ ?_
    clear hb1 hb2 hb3 hb4
    rintro W2 ⟨hb1, hb2, hb3, hb4, ho2⟩
    have hc1 := hb1.cell
    have hf1 := hb1.frozen
    have hl1 := hb1.lt
    have HC1 := Lib.hid hb1
    have hc2 := hb2.cell
    have hf2 := hb2.frozen
    have hl2 := hb2.lt
    have HC2 := Lib.hid hb2
    have hc3 := hb3.cell
    have hc4 := hb4.cell
    have HO2 := Lib.hid ho2
    clear hb1 hb2 hb3 hb4 ho2
    go_region
    obtain ⟨k1, k2, k3⟩ := put7 (a := .string ⟨#[]⟩) (b := .int .i64 0) (c := .string ⟨#[]⟩) (d := .int .i64 0) (x := .int .i64 0) (y := .int .i64 0) (z := .int .i64 0) HC1.out HC2.out
    have he1 := k1.drew.cell
    have he2 := k2.drew.cell
    have K3 := Lib.hid k3.drew
    clear k1 k2 k3 hc1 hf1 hl1 hc2 hf2 hl2 hc3 hc4
    go_wp2_with fail
    refine bodyPost_ret (v := .tuple #[.int .i64 75, .agg #[.string ⟨#[]⟩, .int .i64 0, .string ⟨#[]⟩, .int .i64 0], .agg #[.int .i64 0, .int .i64 0, .int .i64 0], .slice none 0 0]) ?_ rfl ?_
    · have hres : Tryz.f35.results = #[.tmp 4, .cell 5 30, .cell 6 39, .tmp 7] := rfl
      simp only [results, hres]
      go_simp
    · exact ⟨⟨75, rfl, fun _ _ => rfl⟩, DSTo.own H.out HOF.out HT.out ((HO2.out.mono (fun _ _ h => by simp at h ⊢; omega)).trans (K3.out.mono (fun _ _ h => by simp at h ⊢; omega)) (fun _ _ h => h)) HKK.out⟩
  by_cases hk4 : what = 4
  · subst hk4
    have hop := Lib.hid (off_move p n G D path q W (H.out.off HOF.out) HN.out HOFF.out)
    go_wp2_with fail
    refine hop.out.mono ?_
    rintro e w1 ⟨rfl, hT⟩
    have HT := Lib.hid hT
    clear hT hop
    obtain ⟨G1, h1, ho1, hp1⟩ := HT.out
    have hb1 := HB1.out.off ho1 (HNO.out _ (by omega) (by have := HSZ.out; omega))
    have hb2 := HB2.out.off ho1 (HNO.out _ (by omega) (by have := HSZ.out; omega))
    have hb3 := HB3.out.off ho1 (HNO.out _ (by omega) (by have := HSZ.out; omega))
    have hb4 := HB4.out.off ho1 (HNO.out _ (by omega) (by have := HSZ.out; omega))
    clear h1 ho1 hp1
    go_upto_region 28 with fail
    refine code_gen (fun W2 => Blk W2 (w.heap.size + 1) 30 #[.string ⟨#[]⟩, .int .i64 0, .string ⟨#[]⟩, .int .i64 0] ∧ Blk W2 (w.heap.size + 2) 39 #[.int .i64 0, .int .i64 0, .int .i64 0] ∧ Blk W2 (w.heap.size + 3) 30 #[.string ⟨#[]⟩, .int .i64 0, .string ⟨#[]⟩, .int .i64 0] ∧ Blk W2 (w.heap.size + 4) 39 #[.int .i64 0, .int .i64 0, .int .i64 0] ∧ Off [w.heap.size + 3, w.heap.size + 4] w1 W2) ⟨hb1, hb2, hb3, hb4, Off.refl _ _⟩ ?_
    clear hb1 hb2 hb3 hb4
    rintro W2 ⟨hb1, hb2, hb3, hb4, ho2⟩
    have hc1 := hb1.cell
    have hf1 := hb1.frozen
    have hl1 := hb1.lt
    have HC1 := Lib.hid hb1
    have hc2 := hb2.cell
    have hf2 := hb2.frozen
    have hl2 := hb2.lt
    have HC2 := Lib.hid hb2
    have hc3 := hb3.cell
    have hc4 := hb4.cell
    have HO2 := Lib.hid ho2
    clear hb1 hb2 hb3 hb4 ho2
    go_region
    obtain ⟨k1, k2, k3⟩ := put7 (a := .string ⟨#[]⟩) (b := .int .i64 0) (c := .string ⟨#[]⟩) (d := .int .i64 0) (x := .int .i64 0) (y := .int .i64 0) (z := .int .i64 0) HC1.out HC2.out
    have he1 := k1.drew.cell
    have he2 := k2.drew.cell
    have K3 := Lib.hid k3.drew
    clear k1 k2 k3 hc1 hf1 hl1 hc2 hf2 hl2 hc3 hc4
    go_wp2_with fail
    refine bodyPost_ret (v := .tuple #[.int .i64 75, .agg #[.string ⟨#[]⟩, .int .i64 0, .string ⟨#[]⟩, .int .i64 0], .agg #[.int .i64 0, .int .i64 0, .int .i64 0], .slice none 0 0]) ?_ rfl ?_
    · have hres : Tryz.f35.results = #[.tmp 4, .cell 5 30, .cell 6 39, .tmp 7] := rfl
      simp only [results, hres]
      go_simp
    · exact ⟨⟨75, rfl, fun _ _ => rfl⟩, DSTo.own H.out HOF.out HT.out ((HO2.out.mono (fun _ _ h => by simp at h ⊢; omega)).trans (K3.out.mono (fun _ _ h => by simp at h ⊢; omega)) (fun _ _ h => h)) HKK.out⟩
  by_cases hk5 : what = 5
  · subst hk5
    have hop := Lib.hid (off_replace p n G D path q W (H.out.off HOF.out) HN.out HOFF.out)
    go_wp2_with fail
    refine hop.out.mono ?_
    rintro e w1 ⟨rfl, hT⟩
    have HT := Lib.hid hT
    clear hT hop
    obtain ⟨G1, h1, ho1, hp1⟩ := HT.out
    have hb1 := HB1.out.off ho1 (HNO.out _ (by omega) (by have := HSZ.out; omega))
    have hb2 := HB2.out.off ho1 (HNO.out _ (by omega) (by have := HSZ.out; omega))
    have hb3 := HB3.out.off ho1 (HNO.out _ (by omega) (by have := HSZ.out; omega))
    have hb4 := HB4.out.off ho1 (HNO.out _ (by omega) (by have := HSZ.out; omega))
    clear h1 ho1 hp1
    go_upto_region 28 with fail
    refine code_gen (fun W2 => Blk W2 (w.heap.size + 1) 30 #[.string ⟨#[]⟩, .int .i64 0, .string ⟨#[]⟩, .int .i64 0] ∧ Blk W2 (w.heap.size + 2) 39 #[.int .i64 0, .int .i64 0, .int .i64 0] ∧ Blk W2 (w.heap.size + 3) 30 #[.string ⟨#[]⟩, .int .i64 0, .string ⟨#[]⟩, .int .i64 0] ∧ Blk W2 (w.heap.size + 4) 39 #[.int .i64 0, .int .i64 0, .int .i64 0] ∧ Off [w.heap.size + 3, w.heap.size + 4] w1 W2) ⟨hb1, hb2, hb3, hb4, Off.refl _ _⟩ ?_
    clear hb1 hb2 hb3 hb4
    rintro W2 ⟨hb1, hb2, hb3, hb4, ho2⟩
    have hc1 := hb1.cell
    have hf1 := hb1.frozen
    have hl1 := hb1.lt
    have HC1 := Lib.hid hb1
    have hc2 := hb2.cell
    have hf2 := hb2.frozen
    have hl2 := hb2.lt
    have HC2 := Lib.hid hb2
    have hc3 := hb3.cell
    have hc4 := hb4.cell
    have HO2 := Lib.hid ho2
    clear hb1 hb2 hb3 hb4 ho2
    go_region
    obtain ⟨k1, k2, k3⟩ := put7 (a := .string ⟨#[]⟩) (b := .int .i64 0) (c := .string ⟨#[]⟩) (d := .int .i64 0) (x := .int .i64 0) (y := .int .i64 0) (z := .int .i64 0) HC1.out HC2.out
    have he1 := k1.drew.cell
    have he2 := k2.drew.cell
    have K3 := Lib.hid k3.drew
    clear k1 k2 k3 hc1 hf1 hl1 hc2 hf2 hl2 hc3 hc4
    go_wp2_with fail
    refine bodyPost_ret (v := .tuple #[.int .i64 75, .agg #[.string ⟨#[]⟩, .int .i64 0, .string ⟨#[]⟩, .int .i64 0], .agg #[.int .i64 0, .int .i64 0, .int .i64 0], .slice none 0 0]) ?_ rfl ?_
    · have hres : Tryz.f35.results = #[.tmp 4, .cell 5 30, .cell 6 39, .tmp 7] := rfl
      simp only [results, hres]
      go_simp
    · exact ⟨⟨75, rfl, fun _ _ => rfl⟩, DSTo.own H.out HOF.out HT.out ((HO2.out.mono (fun _ _ h => by simp at h ⊢; omega)).trans (K3.out.mono (fun _ _ h => by simp at h ⊢; omega)) (fun _ _ h => h)) HKK.out⟩
  by_cases hk6 : what = 6
  · subst hk6
    have hop := Lib.hid (off_sync p n G D path W (H.out.off HOF.out) HN.out HOFF.out)
    go_wp2_with fail
    refine hop.out.mono ?_
    rintro e w1 ⟨rfl, hT⟩
    have HT := Lib.hid hT
    clear hT hop
    obtain ⟨G1, h1, ho1, hp1⟩ := HT.out
    have hb1 := HB1.out.off ho1 (HNO.out _ (by omega) (by have := HSZ.out; omega))
    have hb2 := HB2.out.off ho1 (HNO.out _ (by omega) (by have := HSZ.out; omega))
    have hb3 := HB3.out.off ho1 (HNO.out _ (by omega) (by have := HSZ.out; omega))
    have hb4 := HB4.out.off ho1 (HNO.out _ (by omega) (by have := HSZ.out; omega))
    clear h1 ho1 hp1
    go_upto_region 28 with fail
    refine code_gen (fun W2 => Blk W2 (w.heap.size + 1) 30 #[.string ⟨#[]⟩, .int .i64 0, .string ⟨#[]⟩, .int .i64 0] ∧ Blk W2 (w.heap.size + 2) 39 #[.int .i64 0, .int .i64 0, .int .i64 0] ∧ Blk W2 (w.heap.size + 3) 30 #[.string ⟨#[]⟩, .int .i64 0, .string ⟨#[]⟩, .int .i64 0] ∧ Blk W2 (w.heap.size + 4) 39 #[.int .i64 0, .int .i64 0, .int .i64 0] ∧ Off [w.heap.size + 3, w.heap.size + 4] w1 W2) ⟨hb1, hb2, hb3, hb4, Off.refl _ _⟩ ?_
    clear hb1 hb2 hb3 hb4
    rintro W2 ⟨hb1, hb2, hb3, hb4, ho2⟩
    have hc1 := hb1.cell
    have hf1 := hb1.frozen
    have hl1 := hb1.lt
    have HC1 := Lib.hid hb1
    have hc2 := hb2.cell
    have hf2 := hb2.frozen
    have hl2 := hb2.lt
    have HC2 := Lib.hid hb2
    have hc3 := hb3.cell
    have hc4 := hb4.cell
    have HO2 := Lib.hid ho2
    clear hb1 hb2 hb3 hb4 ho2
    go_region
    obtain ⟨k1, k2, k3⟩ := put7 (a := .string ⟨#[]⟩) (b := .int .i64 0) (c := .string ⟨#[]⟩) (d := .int .i64 0) (x := .int .i64 0) (y := .int .i64 0) (z := .int .i64 0) HC1.out HC2.out
    have he1 := k1.drew.cell
    have he2 := k2.drew.cell
    have K3 := Lib.hid k3.drew
    clear k1 k2 k3 hc1 hf1 hl1 hc2 hf2 hl2 hc3 hc4
    go_wp2_with fail
    refine bodyPost_ret (v := .tuple #[.int .i64 75, .agg #[.string ⟨#[]⟩, .int .i64 0, .string ⟨#[]⟩, .int .i64 0], .agg #[.int .i64 0, .int .i64 0, .int .i64 0], .slice none 0 0]) ?_ rfl ?_
    · have hres : Tryz.f35.results = #[.tmp 4, .cell 5 30, .cell 6 39, .tmp 7] := rfl
      simp only [results, hres]
      go_simp
    · exact ⟨⟨75, rfl, fun _ _ => rfl⟩, DSTo.own H.out HOF.out HT.out ((HO2.out.mono (fun _ _ h => by simp at h ⊢; omega)).trans (K3.out.mono (fun _ _ h => by simp at h ⊢; omega)) (fun _ _ h => h)) HKK.out⟩
  by_cases hk7 : what = 7
  · subst hk7
    have hop := Lib.hid (off_flush p n G D  W (H.out.off HOF.out) HN.out HOFF.out)
    go_wp2_with fail
    refine hop.out.mono ?_
    rintro e w1 ⟨rfl, hT⟩
    have HT := Lib.hid hT
    clear hT hop
    obtain ⟨G1, h1, ho1, hp1⟩ := HT.out
    have hb1 := HB1.out.off ho1 (HNO.out _ (by omega) (by have := HSZ.out; omega))
    have hb2 := HB2.out.off ho1 (HNO.out _ (by omega) (by have := HSZ.out; omega))
    have hb3 := HB3.out.off ho1 (HNO.out _ (by omega) (by have := HSZ.out; omega))
    have hb4 := HB4.out.off ho1 (HNO.out _ (by omega) (by have := HSZ.out; omega))
    clear h1 ho1 hp1
    go_upto_region 28 with fail
    refine code_gen (fun W2 => Blk W2 (w.heap.size + 1) 30 #[.string ⟨#[]⟩, .int .i64 0, .string ⟨#[]⟩, .int .i64 0] ∧ Blk W2 (w.heap.size + 2) 39 #[.int .i64 0, .int .i64 0, .int .i64 0] ∧ Blk W2 (w.heap.size + 3) 30 #[.string ⟨#[]⟩, .int .i64 0, .string ⟨#[]⟩, .int .i64 0] ∧ Blk W2 (w.heap.size + 4) 39 #[.int .i64 0, .int .i64 0, .int .i64 0] ∧ Off [w.heap.size + 3, w.heap.size + 4] w1 W2) ⟨hb1, hb2, hb3, hb4, Off.refl _ _⟩ ?_
    clear hb1 hb2 hb3 hb4
    rintro W2 ⟨hb1, hb2, hb3, hb4, ho2⟩
    have hc1 := hb1.cell
    have hf1 := hb1.frozen
    have hl1 := hb1.lt
    have HC1 := Lib.hid hb1
    have hc2 := hb2.cell
    have hf2 := hb2.frozen
    have hl2 := hb2.lt
    have HC2 := Lib.hid hb2
    have hc3 := hb3.cell
    have hc4 := hb4.cell
    have HO2 := Lib.hid ho2
    clear hb1 hb2 hb3 hb4 ho2
    go_region
    obtain ⟨k1, k2, k3⟩ := put7 (a := .string ⟨#[]⟩) (b := .int .i64 0) (c := .string ⟨#[]⟩) (d := .int .i64 0) (x := .int .i64 0) (y := .int .i64 0) (z := .int .i64 0) HC1.out HC2.out
    have he1 := k1.drew.cell
    have he2 := k2.drew.cell
    have K3 := Lib.hid k3.drew
    clear k1 k2 k3 hc1 hf1 hl1 hc2 hf2 hl2 hc3 hc4
    go_wp2_with fail
    refine bodyPost_ret (v := .tuple #[.int .i64 75, .agg #[.string ⟨#[]⟩, .int .i64 0, .string ⟨#[]⟩, .int .i64 0], .agg #[.int .i64 0, .int .i64 0, .int .i64 0], .slice none 0 0]) ?_ rfl ?_
    · have hres : Tryz.f35.results = #[.tmp 4, .cell 5 30, .cell 6 39, .tmp 7] := rfl
      simp only [results, hres]
      go_simp
    · exact ⟨⟨75, rfl, fun _ _ => rfl⟩, DSTo.own H.out HOF.out HT.out ((HO2.out.mono (fun _ _ h => by simp at h ⊢; omega)).trans (K3.out.mono (fun _ _ h => by simp at h ⊢; omega)) (fun _ _ h => h)) HKK.out⟩
  by_cases hk8 : what = 8
  · subst hk8
    have hop := Lib.hid (off_get p n G D path W (H.out.off HOF.out) HN.out HOFF.out)
    go_wp2_with fail
    refine hop.out.mono ?_
    rintro e w1 ⟨rfl, hT⟩
    have HT := Lib.hid hT
    clear hT hop
    obtain ⟨G1, h1, ho1, hp1⟩ := HT.out
    have hb1 := HB1.out.off ho1 (HNO.out _ (by omega) (by have := HSZ.out; omega))
    have hb2 := HB2.out.off ho1 (HNO.out _ (by omega) (by have := HSZ.out; omega))
    have hb3 := HB3.out.off ho1 (HNO.out _ (by omega) (by have := HSZ.out; omega))
    have hb4 := HB4.out.off ho1 (HNO.out _ (by omega) (by have := HSZ.out; omega))
    clear h1 ho1 hp1
    have hc3 := hb3.cell
    have hf3 := hb3.frozen
    have hl3 := hb3.lt
    have hc4 := hb4.cell
    have hf4 := hb4.frozen
    have hl4 := hb4.lt
    go_upto_region 28 with fail
    obtain ⟨k1, k2, k3⟩ := put7 (a := .string ⟨#[]⟩) (b := .int .i64 0) (c := .string ⟨#[]⟩) (d := .int .i64 0) (x := .int .i64 0) (y := .int .i64 0) (z := .int .i64 0) hb3 hb4
    have j1 := hb1.off k3 (by simp)
    have j2 := hb2.off k3 (by simp)
    refine code_gen (fun W2 => Blk W2 (w.heap.size + 1) 30 #[.string ⟨#[]⟩, .int .i64 0, .string ⟨#[]⟩, .int .i64 0] ∧ Blk W2 (w.heap.size + 2) 39 #[.int .i64 0, .int .i64 0, .int .i64 0] ∧ Blk W2 (w.heap.size + 3) 30 #[.string ⟨#[]⟩, .int .i64 0, .string ⟨#[]⟩, .int .i64 0] ∧ Blk W2 (w.heap.size + 4) 39 #[.int .i64 0, .int .i64 0, .int .i64 0] ∧ Off [w.heap.size + 3, w.heap.size + 4] w1 W2) ⟨j1, j2, k1, k2, k3⟩ ?_
    clear hc3 hf3 hl3 hc4 hf4 hl4 k1 k2 k3 j1 j2
    clear hb1 hb2 hb3 hb4
    rintro W2 ⟨hb1, hb2, hb3, hb4, ho2⟩
    have hc1 := hb1.cell
    have hf1 := hb1.frozen
    have hl1 := hb1.lt
    have HC1 := Lib.hid hb1
    have hc2 := hb2.cell
    have hf2 := hb2.frozen
    have hl2 := hb2.lt
    have HC2 := Lib.hid hb2
    have hc3 := hb3.cell
    have hc4 := hb4.cell
    have HO2 := Lib.hid ho2
    clear hb1 hb2 hb3 hb4 ho2
    go_region
    obtain ⟨k1, k2, k3⟩ := put7 (a := .string ⟨#[]⟩) (b := .int .i64 0) (c := .string ⟨#[]⟩) (d := .int .i64 0) (x := .int .i64 0) (y := .int .i64 0) (z := .int .i64 0) HC1.out HC2.out
    have he1 := k1.drew.cell
    have he2 := k2.drew.cell
    have K3 := Lib.hid k3.drew
    clear k1 k2 k3 hc1 hf1 hl1 hc2 hf2 hl2 hc3 hc4
    go_wp2_with fail
    refine bodyPost_ret (v := .tuple #[.int .i64 75, .agg #[.string ⟨#[]⟩, .int .i64 0, .string ⟨#[]⟩, .int .i64 0], .agg #[.int .i64 0, .int .i64 0, .int .i64 0], .slice none 0 0]) ?_ rfl ?_
    · have hres : Tryz.f35.results = #[.tmp 4, .cell 5 30, .cell 6 39, .tmp 7] := rfl
      simp only [results, hres]
      go_simp
    · exact ⟨⟨75, rfl, fun _ _ => rfl⟩, DSTo.own H.out HOF.out HT.out ((HO2.out.mono (fun _ _ h => by simp at h ⊢; omega)).trans (K3.out.mono (fun _ _ h => by simp at h ⊢; omega)) (fun _ _ h => h)) HKK.out⟩
  by_cases hk9 : what = 9
  · subst hk9
    have hop := Lib.hid (off_names p n G D path W (H.out.off HOF.out) HN.out HOFF.out)
    go_wp2_with fail
    refine hop.out.mono ?_
    rintro e w1 ⟨rfl, hT⟩
    have HT := Lib.hid hT
    clear hT hop
    obtain ⟨G1, h1, ho1, hp1⟩ := HT.out
    have hb1 := HB1.out.off ho1 (HNO.out _ (by omega) (by have := HSZ.out; omega))
    have hb2 := HB2.out.off ho1 (HNO.out _ (by omega) (by have := HSZ.out; omega))
    have hb3 := HB3.out.off ho1 (HNO.out _ (by omega) (by have := HSZ.out; omega))
    have hb4 := HB4.out.off ho1 (HNO.out _ (by omega) (by have := HSZ.out; omega))
    clear h1 ho1 hp1
    go_upto_region 28 with fail
    refine code_gen (fun W2 => Blk W2 (w.heap.size + 1) 30 #[.string ⟨#[]⟩, .int .i64 0, .string ⟨#[]⟩, .int .i64 0] ∧ Blk W2 (w.heap.size + 2) 39 #[.int .i64 0, .int .i64 0, .int .i64 0] ∧ Blk W2 (w.heap.size + 3) 30 #[.string ⟨#[]⟩, .int .i64 0, .string ⟨#[]⟩, .int .i64 0] ∧ Blk W2 (w.heap.size + 4) 39 #[.int .i64 0, .int .i64 0, .int .i64 0] ∧ Off [w.heap.size + 3, w.heap.size + 4] w1 W2) ⟨hb1, hb2, hb3, hb4, Off.refl _ _⟩ ?_
    clear hb1 hb2 hb3 hb4
    rintro W2 ⟨hb1, hb2, hb3, hb4, ho2⟩
    have hc1 := hb1.cell
    have hf1 := hb1.frozen
    have hl1 := hb1.lt
    have HC1 := Lib.hid hb1
    have hc2 := hb2.cell
    have hf2 := hb2.frozen
    have hl2 := hb2.lt
    have HC2 := Lib.hid hb2
    have hc3 := hb3.cell
    have hc4 := hb4.cell
    have HO2 := Lib.hid ho2
    clear hb1 hb2 hb3 hb4 ho2
    go_region
    obtain ⟨k1, k2, k3⟩ := put7 (a := .string ⟨#[]⟩) (b := .int .i64 0) (c := .string ⟨#[]⟩) (d := .int .i64 0) (x := .int .i64 0) (y := .int .i64 0) (z := .int .i64 0) HC1.out HC2.out
    have he1 := k1.drew.cell
    have he2 := k2.drew.cell
    have K3 := Lib.hid k3.drew
    clear k1 k2 k3 hc1 hf1 hl1 hc2 hf2 hl2 hc3 hc4
    go_wp2_with fail
    refine bodyPost_ret (v := .tuple #[.int .i64 75, .agg #[.string ⟨#[]⟩, .int .i64 0, .string ⟨#[]⟩, .int .i64 0], .agg #[.int .i64 0, .int .i64 0, .int .i64 0], .slice none 0 0]) ?_ rfl ?_
    · have hres : Tryz.f35.results = #[.tmp 4, .cell 5 30, .cell 6 39, .tmp 7] := rfl
      simp only [results, hres]
      go_simp
    · exact ⟨⟨75, rfl, fun _ _ => rfl⟩, DSTo.own H.out HOF.out HT.out ((HO2.out.mono (fun _ _ h => by simp at h ⊢; omega)).trans (K3.out.mono (fun _ _ h => by simp at h ⊢; omega)) (fun _ _ h => h)) HKK.out⟩
  have HT := Lib.hid (((H.out.off HOF.out).refl).le (Nat.le_succ n))
  have hb1 := HB1.out
  have hb2 := HB2.out
  have hb3 := HB3.out
  have hb4 := HB4.out
  go_upto_region 28 with fail
  refine code_gen (fun W2 => Blk W2 (w.heap.size + 1) 30 #[.string ⟨#[]⟩, .int .i64 0, .string ⟨#[]⟩, .int .i64 0] ∧ Blk W2 (w.heap.size + 2) 39 #[.int .i64 0, .int .i64 0, .int .i64 0] ∧ Blk W2 (w.heap.size + 3) 30 #[.string ⟨#[]⟩, .int .i64 0, .string ⟨#[]⟩, .int .i64 0] ∧ Blk W2 (w.heap.size + 4) 39 #[.int .i64 0, .int .i64 0, .int .i64 0] ∧ Off [w.heap.size + 3, w.heap.size + 4] W W2) ⟨hb1, hb2, hb3, hb4, Off.refl _ _⟩ ?_
  clear hb1 hb2 hb3 hb4
  rintro W2 ⟨hb1, hb2, hb3, hb4, ho2⟩
  have hc1 := hb1.cell
  have hf1 := hb1.frozen
  have hl1 := hb1.lt
  have HC1 := Lib.hid hb1
  have hc2 := hb2.cell
  have hf2 := hb2.frozen
  have hl2 := hb2.lt
  have HC2 := Lib.hid hb2
  have hc3 := hb3.cell
  have hc4 := hb4.cell
  have HO2 := Lib.hid ho2
  clear hb1 hb2 hb3 hb4 ho2
  go_region
  obtain ⟨k1, k2, k3⟩ := put7 (a := .string ⟨#[]⟩) (b := .int .i64 0) (c := .string ⟨#[]⟩) (d := .int .i64 0) (x := .int .i64 0) (y := .int .i64 0) (z := .int .i64 0) HC1.out HC2.out
  have he1 := k1.drew.cell
  have he2 := k2.drew.cell
  have K3 := Lib.hid k3.drew
  clear k1 k2 k3 hc1 hf1 hl1 hc2 hf2 hl2 hc3 hc4
  go_wp2_with fail
  refine bodyPost_ret (v := .tuple #[.int .i64 0, .agg #[.string ⟨#[]⟩, .int .i64 0, .string ⟨#[]⟩, .int .i64 0], .agg #[.int .i64 0, .int .i64 0, .int .i64 0], .slice none 0 0]) ?_ rfl ?_
  · have hres : Tryz.f35.results = #[.tmp 4, .cell 5 30, .cell 6 39, .tmp 7] := rfl
    simp only [results, hres]
    go_simp
  · exact ⟨⟨0, rfl, fun h1 h2 => by omega⟩, DSTo.own H.out HOF.out HT.out ((HO2.out.mono (fun _ _ h => by simp at h ⊢; omega)).trans (K3.out.mono (fun _ _ h => by simp at h ⊢; omega)) (fun _ _ h => h)) HKK.out⟩
end Go.Proofs.YtgcfkljooabjjaaGreatDoor

/- A disk's Trace; disk.New where there is no tree; a new disk's tree. Conditions: what each contract states. -/
namespace Go.Proofs.YtgcfkljooabjjaaGreatDoor
open Go.RowKit Go.Op Go.Maps

theorem did_one (fs : List DidP) : ∀ u ∈ didCells fs, u.oneCell' = true := by
  intro u hu
  obtain ⟨n, _, hn⟩ := List.mem_flatMap.1 hu
  simp at hn
  rcases hn with rfl | rfl | rfl <;> rfl
theorem did_len : ∀ (fs : List DidP), (didCells fs).length = fs.length * 3
  | [] => rfl
  | f :: fs => by
    unfold didCells at *
    rw [List.flatMap_cons, List.length_append, show (List.flatMap _ fs).length = fs.length * 3 from did_len fs]; simp; omega
set_option maxRecDepth 100000 in
set_option maxHeartbeats 4000000 in
theorem tclone_any (v : Value) (fs : List DidP) (w : World) (hR : w.ownsRow 0 73 3 v fs.length (didCells fs)) (hbig : fs.length ≤ 1048576) :
    Calls Tryz.prog 71 #[v] w fun e w' => ∃ v, e = .returned v ∧ w'.ownsRow w.heap.size 73 3 v fs.length (didCells fs) ∧ Off [] w w' := by
  obtain ⟨n, hn⟩ : ∃ n, fs.length = n := ⟨_, rfl⟩
  rw [hn] at hR hbig
  rw [hn]
  obtain ⟨i0, hi0, hz0, hz1, hz2⟩ := info_parts infoDid
  have q22 : ∀ (w : World) (a : Option Addr) (n c n' c' : Nat), (binOp .eql 67 (.slice a n c) (.slice none n' c')).run Tryz.prog w = .ok (.bool a.isNone) w := fun w a n c n' c' => Lib.run_eql_slice_nil w _ _ a n c n' c' Tryz.underlying67
  have hl := hR.1
  rcases hR.2 with ⟨rfl, h0⟩ | ⟨g, cap, cur, rfl, hb, hh, hc, _, hsz, ht⟩
  · subst h0
    obtain rfl : fs = [] := List.length_eq_zero_iff.1 hn
    clear hR
    go_enter Tryz.func71, Tryz.ntmps71
    go_wp2_with fail
    go_ret
    exact ⟨_, rfl, ⟨rfl, .inl ⟨rfl, rfl⟩⟩, Off.refl _ _⟩
  · have HC := Lib.hid (show ∀ (j : Nat) (u : Value), (didCells fs)[j]? = some u → w.cell? ((⟨g, 0, none⟩ : Addr).add j) = some u from fun j u hj => by
      have hB : Blk w g 73 cur := hh
      rw [addr_add, hB.cell]
      rw [← ht, List.getElem?_take] at hj
      split at hj
      · simpa using hj
      · cases hj)
    have HO := Lib.hid (did_one fs)
    have HCL := Lib.hid (show (didCells fs).length = n * 3 by rw [did_len, hn])
    clear hR hn hl hb hh hc hsz ht
    go_enter Tryz.func71, Tryz.ntmps71
    go_wp2_with (at_builtin; refine wpList_append_own _ rfl _ _ 67 rfl w.heap.size 73 i0 _ 3 48 Tryz.underlying67 hi0 hz0 hz1 hz2 rfl (by decide) _ _ _ rfl (World.ownsRow_made w #[] 0 (Nat.le_refl _) (Nat.zero_le _) rfl) (⟨g, 0, none⟩ : Addr) n cap (didCells fs) rfl HCL.out ?qc2 HO.out ?qc4 ?qc5 ?qc6 ?_)
    case qc2 =>
      intro j u hj
      exact Lib.cell?_alloc_some _ (HC.out j u hj)
    case qc4 => unfold maxLen; omega
    case qc5 => omega
    case qc6 => simp
    intro v' w1 hown hgrow hnil
    go_wp2_with fail
    go_ret
    refine ⟨v', rfl, by simpa using hown, ?_⟩
    exact ((Off.refl _ w).alloc _).grown hgrow (by intro k hk; simp [Value.ownBlock] at hk; omega)
set_option maxRecDepth 100000 in
set_option maxHeartbeats 4000000 in
theorem dtrace_call (p n : Nat) (G : Geo) (D : PDisk) (w : World) (h : DS w p G D n) (hn : n ≤ 1000000) : Calls Tryz.prog 34 #[.pointer (some ⟨p, 0, none⟩)] w fun e w' => ∃ v, e = .returned v ∧ w'.ownsRow w.heap.size 73 3 v D.trace.length (didCells D.trace) ∧ Off [] w w' := by
  have HCL := Lib.hid (tclone_any G.tv D.trace w h.m.parts.trace (by have := h.ok.tlen; omega))
  have hc0 := h.m.blk.cell
  unfold diskCells at hc0
  clear h
  go_enter Tryz.func34, Tryz.ntmps34
  go_wp2_with fail
  refine HCL.out.mono ?_
  rintro e w1 ⟨v, rfl, hown, ho⟩
  go_wp2_with fail
  go_ret
  exact ⟨v, rfl, hown, ho⟩
theorem run_trace {w0 w : World} {p n : Nat} {D : PDisk} (h : Run w0 w p D n) (hn : n ≤ 1000000) : Calls Tryz.prog 34 #[.pointer (some ⟨p, 0, none⟩)] w fun e w' => ∃ a c, e = .returned (.slice a D.trace.length c) ∧ Run w0 w' p D n ∧ Off [] w w' := by
  have h' := h
  obtain ⟨G, h1, h2, h3, h4⟩ := h
  refine (dtrace_call p n G D w h1 hn).mono fun e w' ⟨v, he, hr, ho⟩ => ?_
  rcases hr.2 with ⟨rfl, h0⟩ | ⟨g, cap, cur, rfl, _⟩
  · exact ⟨none, 0, by rw [he, h0], h'.off ho, ho⟩
  · exact ⟨_, _, he, h'.off ho, ho⟩
/-- where there is no tree, there is no disk -/
theorem dnew_bad (fp : Option Addr) (t : List Node) (n c : Nat) (w : World) (hR : Row w fp t) (hn : t.length = n) (hc : n ≤ c) (hcm : n ≤ maxLen) (hok : okTree t = false) (hF : Fits t) (hT : Tabs w) :
    Calls Tryz.prog 14 #[.slice fp n c] w fun e w' => e = .returned (.tuple #[.pointer none, .int .i64 60]) ∧ Off [] w w' := by
  have HCK := Lib.hid (check_any fp t n c w hR hn hc hcm hF hT)
  have hck : chkV t = 60 := by unfold chkV; rw [hok]; rfl
  rw [hck] at HCK
  clear hR hn hok hF hT hck
  go_enter Tryz.func14, Tryz.ntmps14
  go_wp2_with fail
  refine HCK.out.mono ?_
  rintro e w1 ⟨rfl, ho1⟩
  go_wp2_with fail
  refine bodyPost_ret (v := .tuple #[.pointer none, .int .i64 60]) ?_ rfl ⟨rfl, ho1⟩
  have hres : Tryz.f14.results = #[.tmp 2, .tmp 3] := rfl
  simp only [results, hres]
  go_simp

/-! ### the law -/
theorem nmOf_pair : ∀ (t : List Node) (i : Nat), Sorted t → (nmOf t i).Pairwise fun x y => order (str x.1) (str y.1) < 0
  | [], _, _ => List.Pairwise.nil
  | n :: t, i, h => by
    unfold nmOf
    obtain ⟨h1, h2⟩ := List.pairwise_cons.1 h
    refine List.pairwise_cons.2 ⟨fun x hx => ?_, nmOf_pair t (i + 1) h2⟩
    have hh : hasN (nmOf t (i + 1)) x.1 = true := by
      have : ∀ l : NameL, x ∈ l → hasN l x.1 = true := fun l => by
        induction l with
        | nil => intro h; cases h
        | cons y l ih =>
          intro h
          rcases List.mem_cons.1 h with rfl | h
          · simp [hasN]
          · simp [hasN, ih h]
      exact this _ hx
    obtain ⟨m, hm, e⟩ := (nmOf_has _ _ _).1 hh
    rw [← e]
    exact h1 m hm
theorem sortN_new {t : List Node} (hs : Sorted t) : PDisk.sortN (nmOf t 0) = nmOf t 0 := by
  unfold PDisk.sortN
  refine List.mergeSort_of_pairwise ((nmOf_pair t 0 hs).imp fun {x y} h => ?_)
  have := order_swap (str x.1) (str y.1)
  have h2 : ¬ order (str y.1) (str x.1) < 0 := by omega
  rw [decide_eq_false h2]
  rfl
theorem nmOf_tree (I : List Ino) : ∀ (t : List Node) (i : Nat), (∀ (j : Nat) (n : Node), t[j]? = some n → (I[i + j]?).map (·.node) = some n) → (nmOf t i).filterMap (fun x => ((if x.2 = 0 then none else I[x.2 - 1]?) : Option Ino).map fun n => ({ n.node with path := x.1 } : Node)) = t
  | [], _, _ => rfl
  | n :: t, i, h => by
    unfold nmOf
    have h0 := h 0 n rfl
    rw [Nat.add_zero] at h0
    obtain ⟨m, hm, he⟩ := Option.map_eq_some_iff.1 h0
    rw [List.filterMap_cons]
    simp only [Nat.add_sub_cancel, Nat.succ_ne_zero, if_false, hm, Option.map_some, he]
    rw [nmOf_tree I t (i + 1) (fun j k hj => by rw [show i + 1 + j = i + (j + 1) by omega]; exact h (j + 1) k hj)]
/-- a disk with these names and these nodes -/
theorem tree_new {D : PDisk} {t : List Node} (hs : Sorted t) (hn : D.names = nmOf t 0) (hi : D.inos.map (·.node) = t) : D.tree = t := by
  unfold PDisk.tree
  rw [hn, sortN_new hs]
  refine nmOf_tree D.inos t 0 (fun j n hj => ?_)
  rw [Nat.zero_add, ← List.getElem?_map, hi]
  exact hj
/-- the disk at which the first step of a new one crashed -/
def offD (t : List Node) (f : FateP) : PDisk := ((newD t).boot [f]).flush.2
theorem offD_flush {t : List Node} {f : FateP} (ha : f.at_ = 0) (hw : f.what = 3) : ((newD t).boot [f]).flush = (75, (((newD t).boot [f]).tick ⟨#[70, 108, 117, 115, 104]⟩ ⟨#[]⟩ ⟨#[]⟩).crash f) := by
  unfold PDisk.flush
  rw [call_err (step_crash _ _ _ f rfl rfl (by rw [ha]; rfl) hw) n75]
  rfl
theorem offD_eq {t : List Node} {f : FateP} (ha : f.at_ = 0) (hw : f.what = 3) : (offD t f).off = true ∧ (offD t f).trace.length = 1 ∧ (offD t f).names = nmOf t 0 ∧ (offD t f).inos.map (·.node) = t := by
  unfold offD
  rw [offD_flush ha hw]
  refine ⟨rfl, rfl, ?_, ?_⟩
  · rcases crash_names (((newD t).boot [f]).tick ⟨#[70, 108, 117, 115, 104]⟩ ⟨#[]⟩ ⟨#[]⟩) f with h | h
    · exact h
    · cases h
  · show ((t.map fun n => (⟨n, 0, false⟩ : Ino)).map (PDisk.tear f.torn)).map (·.node) = t
    rw [List.map_map, List.map_map]
    conv => rhs; rw [← List.map_id t]
    exact List.map_congr_left fun n _ => rfl
end Go.Proofs.YtgcfkljooabjjaaGreatDoor

/- hawserlaw07.DiskOff: the walk. Conditions: the tables of unicode/utf8 are laid. -/
namespace Go.Proofs.YtgcfkljooabjjaaGreatDoor
open Go.RowKit Go.Op Go.Maps

/-- a list of calls in memory -/
structure CallAt (w : World) (a : Addr) (c : CallP) : Prop where
  what : w.cell? a = some (.int .i64 c.what)
  path : w.cell? ⟨a.block, a.off + 1, none⟩ = some (.string c.path)
  to_ : w.cell? ⟨a.block, a.off + 2, none⟩ = some (.string c.to_)
  data : w.cell? ⟨a.block, a.off + 3, none⟩ = some (.string c.data)
  mode : w.cell? ⟨a.block, a.off + 4, none⟩ = some (.int .i64 c.mode)
def CRow (w : World) (p : Option Addr) (cs : List CallP) : Prop :=
  cs ≠ [] → ∃ a, p = some a ∧ a.block < w.heap.size ∧ ∀ (i : Nat) (c : CallP), cs[i]? = some c → CallAt w (a.add (i * 5)) c
theorem CallAt.off {w w' : World} {a : Addr} {c : CallP} (h : CallAt w a c) (ho : Off [] w w') (hb : a.block < w.heap.size) : CallAt w' a c :=
  ⟨(ho.cell hb (by simp)).trans h.what, (ho.cell (p := ⟨a.block, a.off + 1, none⟩) hb (by simp)).trans h.path, (ho.cell (p := ⟨a.block, a.off + 2, none⟩) hb (by simp)).trans h.to_, (ho.cell (p := ⟨a.block, a.off + 3, none⟩) hb (by simp)).trans h.data, (ho.cell (p := ⟨a.block, a.off + 4, none⟩) hb (by simp)).trans h.mode⟩
theorem CRow.off {w w' : World} {p : Option Addr} {cs : List CallP} (h : CRow w p cs) (ho : Off [] w w') : CRow w' p cs := fun hne => by
  obtain ⟨a, rfl, hb, hn⟩ := h hne
  exact ⟨a, rfl, Nat.lt_of_lt_of_le hb ho.size, fun i n hi => (hn i n hi).off ho (by rw [add_block]; exact hb)⟩
theorem CRow.get {w : World} {p : Option Addr} {cs : List CallP} (h : CRow w p cs) (i : Nat) (hi : i < cs.length) : ∃ a, p = some a ∧ CallAt w (a.add (i * 5)) cs[i] ∧ a.block < w.heap.size := by
  obtain ⟨a, rfl, hb, hn⟩ := h (by intro e; subst e; simp at hi)
  exact ⟨a, rfl, hn i _ (List.getElem?_eq_getElem hi), hb⟩
theorem eqNode0 (w : World) : (Op.equalIn 10000 30 (.agg #[.string ⟨#[]⟩, .int .i64 0, .string ⟨#[]⟩, .int .i64 0]) (.agg #[.string ⟨#[]⟩, .int .i64 0, .string ⟨#[]⟩, .int .i64 0])).run Tryz.prog w = .ok true w := by
  have := eqNode ⟨⟨#[]⟩, 0, ⟨#[]⟩, 0⟩ ⟨⟨#[]⟩, 0, ⟨#[]⟩, 0⟩ w
  rw [decide_eq_true rfl] at this
  exact this
theorem eqStamp0 (w : World) : (Op.equalIn 10000 39 (.agg #[.int .i64 0, .int .i64 0, .int .i64 0]) (.agg #[.int .i64 0, .int .i64 0, .int .i64 0])).run Tryz.prog w = .ok true w := by
  have u3 := Tryz.underlying3
  have a3 := Tryz.isAgg3
  have z3 := Tryz.sizeOf3
  have hS : Tryz.prog.underlying 39 = some (.struct (Tryz.prog.fieldsOf 39)) := by kernel_rfl
  have hp : Tryz.prog.stoodInHeld 39 = false := by kernel_rfl
  rw [show (10000 : Nat) = 9999 + 1 from rfl, run_equalIn_agg w 9999 39 _ _ hS hp]
  simp only [Program.fieldsOf, Tryz.underlying39]
  go_simp
theorem offD_boot {t : List Node} {f : FateP} (hs : Sorted t) (ha : f.at_ = 0) (hw : f.what = 3) : ((offD t f).boot []).off = false ∧ ((offD t f).boot []).trace = [] ∧ ((offD t f).boot []).tree = t ∧ ((offD t f).boot []).flush.1 = 0 := by
  obtain ⟨h1, h2, h3, h4⟩ := offD_eq (t := t) ha hw
  refine ⟨rfl, rfl, tree_new hs h3 h4, ?_⟩
  unfold PDisk.flush
  rw [call_run (step_free _ _ _ rfl rfl)]
theorem run_ask_off {w0 wr w : World} {p n : Nat} {D : PDisk} (h : Run w0 wr p D n) (hof : Off [] wr w) (hn : n ≤ 1000000) (hoff : D.off = true) (x : CallP) (h10 : x.what ≠ 10) :
    Calls Tryz.prog 35 #[.pointer (some ⟨p, 0, none⟩), .agg #[.int .i64 x.what, .string x.path, .string x.to_, .string x.data, .int .i64 x.mode]] w fun e w' => (∃ k : Int, e = .returned (.tuple #[.int .i64 k, .agg #[.string ⟨#[]⟩, .int .i64 0, .string ⟨#[]⟩, .int .i64 0], .agg #[.int .i64 0, .int .i64 0, .int .i64 0], .slice none 0 0]) ∧ (0 ≤ x.what → x.what ≤ 9 → k = 75)) ∧ Run w0 w' p D (n + 1) ∧ ∀ (b : Nat) (t : TypeId) (cs : Array Value), wr.heap.size ≤ b → Blk w b t cs → Blk w' b t cs := by
  obtain ⟨G, h1, h2, h3, h4⟩ := h
  refine (ask_off p n G D x w (h1.off hof) hn hoff h10).mono fun e w' ⟨he, hT⟩ => ⟨he, Run.next (h2.trans_nil hof) h3 h4 hT, fun b t cs hb hB => ?_⟩
  obtain ⟨G2, -, ho, -⟩ := hT
  refine hB.off ho (fun hm => ?_)
  rcases List.mem_cons.1 hm with rfl | hm
  · have := h1.m.blk.lt; omega
  · have := h1.m.parts.lt hm; omega
set_option maxRecDepth 100000 in
set_option maxHeartbeats 16000000 in
theorem doff_any (fp : Option Addr) (t : List Node) (n c : Nat) (cp : Option Addr) (cs : List CallP) (m d : Nat) (f : FateP) (w : World) (hR : Row w fp t) (hn : t.length = n) (hc : n ≤ c) (hcm : c ≤ maxLen) (hF : Fits t)
    (hC : CRow w cp cs) (hm : cs.length = m) (hmd : m ≤ d) (_hdm : d ≤ maxLen) (hT : Tabs w) :
    Calls Tryz.prog 12 #[.slice fp n c, .slice cp m d, .agg #[.int .i64 f.at_, .int .i64 f.what, .int .i64 f.keep, .int .i64 f.torn]] w fun e w' => e = .returned (.bool true) ∧ Off [] w w' := by
  have HT := Lib.hid hT
  have HR0 := Lib.hid hR
  have HC0 := Lib.hid hC
  have HN := Lib.hid hn
  have HM := Lib.hid hm
  have HFT := Lib.hid hF
  have HAW := Lib.hid (fun (W : World) (ho : Off [] w W) => dawake_any W (hT.off ho))
  unfold maxLen at hcm
  clear hT hR hn hC hm hF
  go_enter Tryz.func12, Tryz.ntmps12
  go_upto_region 1 with fail
  refine code_gen (fun W => Blk W w.heap.size 23 #[.int .i64 f.at_, .int .i64 f.what, .int .i64 f.keep, .int .i64 f.torn] ∧ Off [] w W) ⟨Blk.new w _ _, (Off.refl _ _).alloc _⟩ ?_
  rintro W ⟨hbf, hof⟩
  have HBF := Lib.hid hbf
  have HOF := Lib.hid hof
  clear hbf hof
  go_wp2_with fail
  refine (HAW.out W HOF.out).mono ?_
  rintro e w1 ⟨rfl, ho1⟩
  have HB1 := Lib.hid (HBF.out.off ho1 (by simp))
  have HO1 := Lib.hid (HOF.out.trans_nil ho1)
  clear ho1 HAW HBF HOF
  by_cases hok : okTree t = true
  case neg =>
    have hok : okTree t = false := by simpa using hok
    have HNB := Lib.hid (dnew_bad fp t n c w1 (HR0.out.off HO1.out) HN.out hc (by unfold maxLen; omega) hok HFT.out (HT.out.off HO1.out))
    clear hok
    go_wp2_with fail
    refine HNB.out.mono ?_
    rintro e w2 ⟨rfl, ho2⟩
    go_wp2_with fail
    go_ret
    exact ⟨rfl, HO1.out.trans_nil ho2⟩
  have HSRT := Lib.hid (okTree_sorted hok)
  have HLEN := Lib.hid (okTree_len hok)
  have HNEW := Lib.hid (run_new fp t n c w1 w1 (Off.refl _ _) (HT.out.off HO1.out) (HR0.out.off HO1.out) HN.out hc hok HFT.out)
  clear hok
  go_wp2_with fail
  refine HNEW.out.mono ?_
  rintro e w2 ⟨gd, rfl, hr⟩
  have HR2 := Lib.hid hr
  have hbf := HB1.out.off hr.since (by simp)
  have hcf := hbf.cell
  have hlf := hbf.lt
  clear hr HNEW hbf
  go_wp2_with fail
  refine (run_boot (HR2.out.off ((Off.refl [] _).alloc _)) (some ⟨_, 0, none⟩) [⟨0, 3, f.keep, f.torn⟩] 1 1 (FRow.one _ (Blk.new _ _ _)) rfl (by decide) (fun h => by cases h)).mono ?_
  rintro e w3 ⟨rfl, hr⟩
  have HR3 := Lib.hid hr
  clear hr hcf hlf HR2
  have HFL := Lib.hid (run_flush HR3.out (by omega))
  have HOD := Lib.hid (offD_eq (t := t) (f := ⟨0, 3, f.keep, f.torn⟩) rfl rfl)
  have HOB := Lib.hid (offD_boot (t := t) (f := ⟨0, 3, f.keep, f.torn⟩) HSRT.out rfl rfl)
  have hff := offD_flush (t := t) (f := ⟨0, 3, f.keep, f.torn⟩) rfl rfl
  have hf1 : ((newD t).boot [⟨0, 3, f.keep, f.torn⟩]).flush.1 = 75 := by rw [hff]
  rw [hf1] at HFL
  clear hff hf1
  go_wp2_with fail
  refine HFL.out.mono ?_
  rintro e w4 ⟨rfl, hr⟩
  have hr : Run w1 w4 gd (offD t ⟨0, 3, f.keep, f.torn⟩) (0 + 2) := hr
  have HR4 := Lib.hid hr
  clear hr HFL HR3
  obtain ⟨D, hD⟩ : ∃ D, offD t ⟨0, 3, f.keep, f.torn⟩ = D := ⟨_, rfl⟩
  rw [hD] at HOD HOB HR4
  clear hD
  go_wp2_with fail
  refine (run_steps HR4.out).mono ?_
  rintro e w5 ⟨he, hr⟩
  rw [HOD.out.2.1] at he
  have he : e = .returned (.int .i64 1) := he
  subst he
  have HR5 := Lib.hid hr
  clear hr HR4
  go_wp2_with fail
  go_loopw [44] (fun x wr => ∃ i : Nat, x = .int .i64 i ∧ i ≤ m ∧ i ≤ 40 ∧ Hid (Run w1 wr gd D (2 + i))) (fun x _ => m - (intOf x).toNat)
  case atStart => exact ⟨0, rfl, by omega, by omega, Lib.hid HR5.out⟩
  case round =>
    clear HR5
    obtain ⟨i, rfl, hi, hi40, HRW⟩ := hrel
    by_cases hlt : i < m
    · have hil : i < cs.length := by rw [HM.out]; exact hlt
      obtain ⟨a, rfl, hca, hab⟩ := (HC0.out.off (HO1.out.trans_nil HRW.out.since)).get i hil
      generalize cs[i] = x at hca
      have c0 := hca.what
      have c1 := hca.path
      have c2 := hca.to_
      have c3 := hca.data
      have c4 := hca.mode
      have hilt : (i : Int) < m := by omega
      have habk : (a.add (i * 5)).block < wr.heap.size := by rw [add_block]; exact hab
      clear hca hab hil
      go_upto_region 12 with fail
      refine code_gen (fun W => Blk W wr.heap.size 77 #[.int .i64 x.what, .string x.path, .string x.to_, .string x.data, .int .i64 x.mode] ∧ Off [] wr W) ⟨Blk.new _ _ _, (Off.refl _ _).alloc _⟩ ?_
      rintro W ⟨hbc, hof⟩
      clear c0 c1 c2 c3 c4 habk
      have HBC := Lib.hid hbc
      have hcc := hbc.cell
      have HOX := Lib.hid hof
      have HRR := Lib.hid HRW.out
      have HRC := Lib.hid (HRW.out.off hof)
      clear hbc hof HRW
      by_cases h40 : i = 40
      · have hq : ((i : Int) == 40) = true := by rw [h40]; rfl
        clear h40
        go_wp2_with fail
        refine (run_boot HRC.out none [] 0 0 (FRow.nil _ _) rfl (by decide) (fun _ => rfl)).mono ?_
        rintro e wa ⟨rfl, hr⟩
        have HRA := Lib.hid hr
        clear hr
        go_wp2_with fail
        refine (run_on HRA.out).mono ?_
        rintro e wb ⟨he, hr⟩
        rw [HOB.out.1] at he
        have he : e = .returned (.bool true) := he
        subst he
        have HRB := Lib.hid hr
        clear hr HRA
        go_wp2_with fail
        refine (run_steps HRB.out).mono ?_
        rintro e wc ⟨he, hr⟩
        rw [HOB.out.2.1] at he
        have he : e = .returned (.int .i64 0) := he
        subst he
        have HRC2 := Lib.hid hr
        clear hr HRB
        go_wp2_with fail
        refine (run_trace HRC2.out (by omega)).mono ?_
        rintro e wd ⟨pa, pc, he, hr, ho⟩
        rw [HOB.out.2.1] at he
        have he : e = .returned (.slice pa 0 pc) := he
        subst he
        have HRD := Lib.hid hr
        clear hr HRC2 ho
        go_wp2_with fail
        refine (run_tree HRD.out (by omega)).mono ?_
        rintro e wf ⟨v, rfl, hrow, ho, hr⟩
        rw [HOB.out.2.2.1] at hrow
        obtain ⟨qa, qc, hv, hqr, -⟩ := own_row hrow
        rw [HN.out] at hv
        subst hv
        have HSM := Lib.hid (rsame_any t t qa fp qc c wf (by have := HLEN.out; omega) (by have := HLEN.out; omega) hqr (HR0.out.off (HO1.out.trans_nil hr.since)))
        rw [decide_eq_true rfl, HN.out] at HSM
        have HRF := Lib.hid hr
        clear hr hrow hqr ho HRD
        go_wp2_with fail
        refine HSM.out.mono ?_
        rintro e wg ⟨rfl, hog⟩
        have HRG := Lib.hid (HRF.out.off hog)
        clear hog HRF HSM
        have HFL := Lib.hid (run_flush HRG.out (by omega))
        rw [HOB.out.2.2.2] at HFL
        go_wp2_with fail
        refine HFL.out.mono ?_
        rintro e wh ⟨rfl, hr⟩
        have HOZ := Lib.hid (HO1.out.trans_nil hr.since)
        clear hr HFL HRG
        go_wp2_with fail
        go_ret
        exact ⟨rfl, HOZ.out⟩
      have hq : ((i : Int) == 40) = false := beq_eq_false_iff_ne.2 (by omega)
      by_cases h10 : x.what = 10
      · rw [h10] at hcc
        go_wp2_with fail
        exact ⟨⟨i + 1, by congr 1, by omega, by omega, Lib.hid (HRC.out.le (by omega))⟩, by simp only [intOf]; omega⟩
      have hw10 : (x.what == 10) = false := beq_eq_false_iff_ne.2 h10
      have HASK := Lib.hid (run_ask_off HRR.out HOX.out (by omega) HOD.out.1 x h10)
      go_wp2_with fail
      refine HASK.out.mono ?_
      rintro e w6 ⟨⟨k, rfl, hk⟩, hr, hbk⟩
      have HR6 := Lib.hid hr
      have hbc6 := hbk _ _ _ (Nat.le_refl _) HBC.out
      have HB6 := Lib.hid hbc6
      have HKK := Lib.hid hk
      clear hr hbk hcc HASK hk hbc6
      go_upto_region 15 with fail
      refine code_gen (fun W7 => Blk W7 w6.heap.size 30 #[.string ⟨#[]⟩, .int .i64 0, .string ⟨#[]⟩, .int .i64 0] ∧ Blk W7 (w6.heap.size + 1) 39 #[.int .i64 0, .int .i64 0, .int .i64 0] ∧ Off [] w6 W7) ⟨(Blk.new w6 _ _).alloc _, Blk.new1 w6 _ _ _, ((Off.refl _ _).alloc _).alloc _⟩ ?_
      rintro W7 ⟨hbn, hbs, ho7⟩
      have HR7 := Lib.hid (HR6.out.off ho7)
      have hbc7 := HB6.out.off ho7 (by simp)
      have hcn := hbn.cell
      have hcs := hbs.cell
      have hcc := hbc7.cell
      clear ho7 hbn hbs hbc7
      have hen := eqNode0
      have hes := eqStamp0
      have hgn : Tryz.prog.eqGuardType Tryz.prog.depth 30 = false := by kernel_rfl
      have hgs : Tryz.prog.eqGuardType Tryz.prog.depth 39 = false := by kernel_rfl
      by_cases h0 : 0 ≤ x.what
      · by_cases h9 : x.what ≤ 9
        · have hk75 := HKK.out h0 h9
          subst hk75
          go_wp2_with fail
          refine (run_steps HR7.out).mono ?_
          rintro e w8 ⟨he, hr⟩
          rw [HOD.out.2.1] at he
          have he : e = .returned (.int .i64 1) := he
          subst he
          have HR8 := Lib.hid hr
          clear hr
          go_wp2_with fail
          refine (run_on HR8.out).mono ?_
          rintro e w9 ⟨he, hr⟩
          rw [HOD.out.1] at he
          have he : e = .returned (.bool false) := he
          subst he
          have HR9 := Lib.hid hr
          clear hr
          go_wp2_with fail
          exact ⟨⟨i + 1, by congr 1, by omega, by omega, Lib.hid (HR9.out.le (by omega))⟩, by simp only [intOf]; omega⟩
        · have h9n : ¬ x.what ≤ 9 := h9
          go_wp2_with fail
          refine (run_steps HR7.out).mono ?_
          rintro e w8 ⟨he, hr⟩
          rw [HOD.out.2.1] at he
          have he : e = .returned (.int .i64 1) := he
          subst he
          have HR8 := Lib.hid hr
          clear hr
          go_wp2_with fail
          refine (run_on HR8.out).mono ?_
          rintro e w9 ⟨he, hr⟩
          rw [HOD.out.1] at he
          have he : e = .returned (.bool false) := he
          subst he
          have HR9 := Lib.hid hr
          clear hr
          go_wp2_with fail
          exact ⟨⟨i + 1, by congr 1, by omega, by omega, Lib.hid (HR9.out.le (by omega))⟩, by simp only [intOf]; omega⟩
      · have h0n : ¬ 0 ≤ x.what := h0
        go_wp2_with fail
        refine (run_steps HR7.out).mono ?_
        rintro e w8 ⟨he, hr⟩
        rw [HOD.out.2.1] at he
        have he : e = .returned (.int .i64 1) := he
        subst he
        have HR8 := Lib.hid hr
        clear hr
        go_wp2_with fail
        refine (run_on HR8.out).mono ?_
        rintro e w9 ⟨he, hr⟩
        rw [HOD.out.1] at he
        have he : e = .returned (.bool false) := he
        subst he
        have HR9 := Lib.hid hr
        clear hr
        go_wp2_with fail
        exact ⟨⟨i + 1, by congr 1, by omega, by omega, Lib.hid (HR9.out.le (by omega))⟩, by simp only [intOf]; omega⟩
    · obtain rfl : i = m := by omega
      go_wp2_with fail
      refine (run_boot HRW.out none [] 0 0 (FRow.nil _ _) rfl (by decide) (fun _ => rfl)).mono ?_
      rintro e wa ⟨rfl, hr⟩
      have HRA := Lib.hid hr
      clear hr
      go_wp2_with fail
      refine (run_on HRA.out).mono ?_
      rintro e wb ⟨he, hr⟩
      rw [HOB.out.1] at he
      have he : e = .returned (.bool true) := he
      subst he
      have HRB := Lib.hid hr
      clear hr HRA
      go_wp2_with fail
      refine (run_steps HRB.out).mono ?_
      rintro e wc ⟨he, hr⟩
      rw [HOB.out.2.1] at he
      have he : e = .returned (.int .i64 0) := he
      subst he
      have HRC2 := Lib.hid hr
      clear hr HRB
      go_wp2_with fail
      refine (run_trace HRC2.out (by omega)).mono ?_
      rintro e wd ⟨pa, pc, he, hr, ho⟩
      rw [HOB.out.2.1] at he
      have he : e = .returned (.slice pa 0 pc) := he
      subst he
      have HRD := Lib.hid hr
      clear hr HRC2 ho
      go_wp2_with fail
      refine (run_tree HRD.out (by omega)).mono ?_
      rintro e wf ⟨v, rfl, hrow, ho, hr⟩
      rw [HOB.out.2.2.1] at hrow
      obtain ⟨qa, qc, hv, hqr, -⟩ := own_row hrow
      rw [HN.out] at hv
      subst hv
      have HSM := Lib.hid (rsame_any t t qa fp qc c wf (by have := HLEN.out; omega) (by have := HLEN.out; omega) hqr (HR0.out.off (HO1.out.trans_nil hr.since)))
      rw [decide_eq_true rfl, HN.out] at HSM
      have HRF := Lib.hid hr
      clear hr hrow hqr ho HRD
      go_wp2_with fail
      refine HSM.out.mono ?_
      rintro e wg ⟨rfl, hog⟩
      have HRG := Lib.hid (HRF.out.off hog)
      clear hog HRF HSM
      have HFL := Lib.hid (run_flush HRG.out (by omega))
      rw [HOB.out.2.2.2] at HFL
      go_wp2_with fail
      refine HFL.out.mono ?_
      rintro e wh ⟨rfl, hr⟩
      have HOZ := Lib.hid (HO1.out.trans_nil hr.since)
      clear hr HFL HRG
      go_wp2_with fail
      go_ret
      exact ⟨rfl, HOZ.out⟩
end Go.Proofs.YtgcfkljooabjjaaGreatDoor
