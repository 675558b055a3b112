/- Texts of this claim, one behind the other: Off OffAsk Off2 AskE AskOn Light TreeInv TreeKeep TreeKeep2. Conditions: what each lemma states. -/
import Derived.Test.YtgcfkljooabjjaaGreatDoorFj
import Derived.Test.YtgcfkljooabjjaaGreatDoorFi
/- A disk that is off: each call answers ErrOff and leaves it as it is. Conditions: what each contract states. -/
namespace Go.Proofs.YtgcfkljooabjjaaGreatDoor
open Go.RowKit Go.Op Go.Maps

theorem step_off {D : PDisk} (h : D.off = true) (c p q : ByteArray) : D.step c p q = (false, 75, D) := by unfold PDisk.step; rw [h]; rfl

theorem DS.off_to {w W w1 : World} {p n n1 : Nat} {G : Geo} {D D1 : PDisk} (_h : DS w p G D n) (hW : Off [] w W) (hT : DSTo W p G.parts w1 D1 n1) : DSTo w p G.parts w1 D1 n1 := by
  refine DSTo.step (hW.mono (fun _ _ h => by simp at h)) (fun _ hb => .inl hb) hT

set_option maxRecDepth 100000 in
set_option maxHeartbeats 4000000 in
theorem off_write (p n : Nat) (G : Geo) (D : PDisk) (path data : ByteArray) (mode : Int) (w : World) (h : DS w p G D n) (hn : n ≤ 1000000) (hoff : D.off = true) :
    Calls Tryz.prog 16 #[.pointer (some ⟨p, 0, none⟩), .string path, .string data, .int .i64 mode] w fun e w' => e = .returned (.int .i64 75) ∧ DSTo w p G.parts w' D (n + 1) := by
  have H := Lib.hid h
  have hst := fun (W : World) (ho : Off [] w W) => dstep_one p n G D ⟨#[87, 114, 105, 116, 101]⟩ path W (h.off ho) hn
  simp only [step_off hoff] at hst
  have HST := Lib.hid hst
  clear hst h
  go_enter Tryz.func16, Tryz.ntmps16
  go_wp2_with fail
  refine (HST.out w (Off.refl _ _)).mono ?_
  rintro e w1 ⟨rfl, hT⟩
  go_wp2_with fail
  go_ret
  exact ⟨rfl, hT⟩

set_option maxRecDepth 100000 in
set_option maxHeartbeats 4000000 in
theorem off_mkdir (p n : Nat) (G : Geo) (D : PDisk) (path : ByteArray) (w : World) (h : DS w p G D n) (hn : n ≤ 1000000) (hoff : D.off = true) :
    Calls Tryz.prog 72 #[.pointer (some ⟨p, 0, none⟩), .string path] w fun e w' => e = .returned (.int .i64 75) ∧ DSTo w p G.parts w' D (n + 1) := by
  have H := Lib.hid h
  have hst := fun (W : World) (ho : Off [] w W) => dstep_one p n G D ⟨#[77, 107, 100, 105, 114]⟩ path W (h.off ho) hn
  simp only [step_off hoff] at hst
  have HST := Lib.hid hst
  clear hst h
  go_enter Tryz.func72, Tryz.ntmps72
  go_wp2_with fail
  refine (HST.out w (Off.refl _ _)).mono ?_
  rintro e w1 ⟨rfl, hT⟩
  go_wp2_with fail
  go_ret
  exact ⟨rfl, hT⟩

set_option maxRecDepth 100000 in
set_option maxHeartbeats 4000000 in
theorem off_link (p n : Nat) (G : Geo) (D : PDisk) (path q : ByteArray) (w : World) (h : DS w p G D n) (hn : n ≤ 1000000) (hoff : D.off = true) :
    Calls Tryz.prog 73 #[.pointer (some ⟨p, 0, none⟩), .string path, .string q] w fun e w' => e = .returned (.int .i64 75) ∧ DSTo w p G.parts w' D (n + 1) := by
  have H := Lib.hid h
  have hst := fun (W : World) (ho : Off [] w W) => dstep_two p n G D ⟨#[76, 105, 110, 107]⟩ path q W (h.off ho) hn
  simp only [step_off hoff] at hst
  have HST := Lib.hid hst
  clear hst h
  go_enter Tryz.func73, Tryz.ntmps73
  go_wp2_with fail
  refine (HST.out w (Off.refl _ _)).mono ?_
  rintro e w1 ⟨rfl, hT⟩
  go_wp2_with fail
  go_ret
  exact ⟨rfl, hT⟩

set_option maxRecDepth 100000 in
set_option maxHeartbeats 4000000 in
theorem off_remove (p n : Nat) (G : Geo) (D : PDisk) (path : ByteArray) (w : World) (h : DS w p G D n) (hn : n ≤ 1000000) (hoff : D.off = true) :
    Calls Tryz.prog 64 #[.pointer (some ⟨p, 0, none⟩), .string path] w fun e w' => e = .returned (.int .i64 75) ∧ DSTo w p G.parts w' D (n + 1) := by
  have H := Lib.hid h
  have hst := fun (W : World) (ho : Off [] w W) => dstep_one p n G D ⟨#[82, 101, 109, 111, 118, 101]⟩ path W (h.off ho) hn
  simp only [step_off hoff] at hst
  have HST := Lib.hid hst
  clear hst h
  go_enter Tryz.func64, Tryz.ntmps64
  go_upto_region 1 with fail
  refine code_gen (fun W => Blk W w.heap.size 9 #[.string path] ∧ Off [] w W) ⟨Blk.new w _ _, (Off.refl _ _).alloc _⟩ ?_
  rintro W ⟨hbp, hof⟩
  have hcp := hbp.cell
  have HOF := Lib.hid hof
  clear hof hbp
  go_wp2_with fail
  refine (HST.out W HOF.out).mono ?_
  rintro e w1 ⟨rfl, hT⟩
  go_wp2_with fail
  go_ret
  exact ⟨rfl, H.out.off_to HOF.out hT⟩

set_option maxRecDepth 100000 in
set_option maxHeartbeats 4000000 in
theorem off_move (p n : Nat) (G : Geo) (D : PDisk) (path q : ByteArray) (w : World) (h : DS w p G D n) (hn : n ≤ 1000000) (hoff : D.off = true) :
    Calls Tryz.prog 74 #[.pointer (some ⟨p, 0, none⟩), .string path, .string q] w fun e w' => e = .returned (.int .i64 75) ∧ DSTo w p G.parts w' D (n + 1) := by
  have H := Lib.hid h
  have hst := fun (W : World) (ho : Off [] w W) => dstep_two p n G D ⟨#[77, 111, 118, 101]⟩ path q W (h.off ho) hn
  simp only [step_off hoff] at hst
  have HST := Lib.hid hst
  clear hst h
  go_enter Tryz.func74, Tryz.ntmps74
  go_upto_region 1 with fail
  refine code_gen (fun W => Blk W w.heap.size 9 #[.string path] ∧ Blk W (w.heap.size + 1) 9 #[.string q] ∧ Off [] w W)
    ⟨(Blk.new w _ _).alloc _, Blk.new1 w _ _ _, ((Off.refl _ _).alloc _).alloc _⟩ ?_
  rintro W ⟨hbp, hbq, hof⟩
  have hcp := hbp.cell
  have hcq := hbq.cell
  have HOF := Lib.hid hof
  clear hof hbp hbq
  go_wp2_with fail
  refine (HST.out W HOF.out).mono ?_
  rintro e w1 ⟨rfl, hT⟩
  go_wp2_with fail
  go_ret
  exact ⟨rfl, H.out.off_to HOF.out hT⟩

set_option maxRecDepth 100000 in
set_option maxHeartbeats 4000000 in
theorem off_replace (p n : Nat) (G : Geo) (D : PDisk) (path q : ByteArray) (w : World) (h : DS w p G D n) (hn : n ≤ 1000000) (hoff : D.off = true) :
    Calls Tryz.prog 18 #[.pointer (some ⟨p, 0, none⟩), .string path, .string q] w fun e w' => e = .returned (.int .i64 75) ∧ DSTo w p G.parts w' D (n + 1) := by
  have H := Lib.hid h
  have hst := fun (W : World) (ho : Off [] w W) => dstep_two p n G D ⟨#[82, 101, 112, 108, 97, 99, 101]⟩ path q W (h.off ho) hn
  simp only [step_off hoff] at hst
  have HST := Lib.hid hst
  clear hst h
  go_enter Tryz.func18, Tryz.ntmps18
  go_upto_region 1 with fail
  refine code_gen (fun W => Blk W w.heap.size 9 #[.string path] ∧ Blk W (w.heap.size + 1) 9 #[.string q] ∧ Off [] w W)
    ⟨(Blk.new w _ _).alloc _, Blk.new1 w _ _ _, ((Off.refl _ _).alloc _).alloc _⟩ ?_
  rintro W ⟨hbp, hbq, hof⟩
  have hcp := hbp.cell
  have hcq := hbq.cell
  have HOF := Lib.hid hof
  clear hof hbp hbq
  go_wp2_with fail
  refine (HST.out W HOF.out).mono ?_
  rintro e w1 ⟨rfl, hT⟩
  go_wp2_with fail
  go_ret
  exact ⟨rfl, H.out.off_to HOF.out hT⟩

set_option maxRecDepth 100000 in
set_option maxHeartbeats 4000000 in
theorem off_sync (p n : Nat) (G : Geo) (D : PDisk) (path : ByteArray) (w : World) (h : DS w p G D n) (hn : n ≤ 1000000) (hoff : D.off = true) :
    Calls Tryz.prog 17 #[.pointer (some ⟨p, 0, none⟩), .string path] w fun e w' => e = .returned (.int .i64 75) ∧ DSTo w p G.parts w' D (n + 1) := by
  have H := Lib.hid h
  have hst := fun (W : World) (ho : Off [] w W) => dstep_one p n G D ⟨#[83, 121, 110, 99]⟩ path W (h.off ho) hn
  simp only [step_off hoff] at hst
  have HST := Lib.hid hst
  clear hst h
  go_enter Tryz.func17, Tryz.ntmps17
  go_wp2_with fail
  refine (HST.out w (Off.refl _ _)).mono ?_
  rintro e w1 ⟨rfl, hT⟩
  go_wp2_with fail
  go_ret
  exact ⟨rfl, hT⟩

set_option maxRecDepth 100000 in
set_option maxHeartbeats 4000000 in
theorem off_names (p n : Nat) (G : Geo) (D : PDisk) (path : ByteArray) (w : World) (h : DS w p G D n) (hn : n ≤ 1000000) (hoff : D.off = true) :
    Calls Tryz.prog 37 #[.pointer (some ⟨p, 0, none⟩), .string path] w fun e w' => e = .returned (.tuple #[.slice none 0 0, .int .i64 75]) ∧ DSTo w p G.parts w' D (n + 1) := by
  have H := Lib.hid h
  have hst := fun (W : World) (ho : Off [] w W) => dstep_one p n G D ⟨#[78, 97, 109, 101, 115]⟩ path W (h.off ho) hn
  simp only [step_off hoff] at hst
  have HST := Lib.hid hst
  clear hst h
  go_enter Tryz.func37, Tryz.ntmps37
  go_wp2_with fail
  refine (HST.out w (Off.refl _ _)).mono ?_
  rintro e w1 ⟨rfl, hT⟩
  go_wp2_with fail
  refine bodyPost_ret (v := .tuple #[.slice none 0 0, .int .i64 75]) ?_ rfl ⟨rfl, hT⟩
  have hres : Tryz.f37.results = #[.tmp 4, .tmp 5] := rfl
  simp only [results, hres]
  go_simp

theorem off_flush (p n : Nat) (G : Geo) (D : PDisk) (w : World) (h : DS w p G D n) (hn : n ≤ 1000000) (hoff : D.off = true) :
    Calls Tryz.prog 19 #[.pointer (some ⟨p, 0, none⟩)] w fun e w' => e = .returned (.int .i64 75) ∧ DSTo w p G.parts w' D (n + 1) := by
  have hf : D.flush = (75, D) := by
    unfold PDisk.flush
    rw [call_err (step_off hoff _ _ _) n75]
  refine (flush_call p n G D w h hn).mono ?_
  rw [hf]
  rintro e w' ⟨he, G1, h1, ho, hp⟩
  exact ⟨he, G1, ⟨h1.m, h1.sb, PDisk.ok_mono h.ok (by omega), h1.tabs, h1.quiet⟩, ho, hp⟩

set_option maxRecDepth 100000 in
set_option maxHeartbeats 4000000 in
theorem off_get (p n : Nat) (G : Geo) (D : PDisk) (path : ByteArray) (w : World) (h : DS w p G D n) (hn : n ≤ 1000000) (hoff : D.off = true) :
    Calls Tryz.prog 20 #[.pointer (some ⟨p, 0, none⟩), .string path] w fun e w' => e = .returned (.tuple #[.agg #[.string ⟨#[]⟩, .int .i64 0, .string ⟨#[]⟩, .int .i64 0], .agg #[.int .i64 0, .int .i64 0, .int .i64 0], .int .i64 75]) ∧ DSTo w p G.parts w' D (n + 1) := by
  have H := Lib.hid h
  have hst := fun (W : World) (ho : Off [] w W) => dstep_one p n G D ⟨#[71, 101, 116]⟩ path W (h.off ho) hn
  simp only [step_off hoff] at hst
  have HSTEP := Lib.hid hst
  clear hst h
  go_enter Tryz.func20, Tryz.ntmps20
  go_upto_region 1 with fail
  refine code_gen (fun W => Blk W w.heap.size 30 #[.string ⟨#[]⟩, .int .i64 0, .string ⟨#[]⟩, .int .i64 0] ∧ Blk W (w.heap.size + 1) 39 #[.int .i64 0, .int .i64 0, .int .i64 0] ∧ Off [] w W ∧ w.heap.size + 1 < W.heap.size)
    ⟨(Blk.new w _ _).alloc _, Blk.new1 w _ _ _, ((Off.refl _ _).alloc _).alloc _, by simp⟩ ?_
  rintro W ⟨hbn, hbs, hof, hsz⟩
  have HBN := Lib.hid hbn
  have HBS := Lib.hid hbs
  have HOF := Lib.hid hof
  have HSZ := Lib.hid hsz
  clear hbn hbs hof hsz
  go_wp2_with fail
  refine (HSTEP.out W HOF.out).mono ?_
  rintro e w1 ⟨rfl, hT⟩
  have HT := Lib.hid hT
  obtain ⟨G1, h1, ho1, hp1⟩ := hT
  have hno : ∀ b, w.heap.size ≤ b → b < W.heap.size → b ∉ p :: G.parts := fun b hb _ hm => by
    rcases List.mem_cons.1 hm with rfl | hm
    · have := H.out.m.blk.lt; omega
    · have := H.out.m.parts.lt hm; omega
  have hbn1 := HBN.out.off ho1 (hno _ (Nat.le_refl _) (by have := HSZ.out; omega))
  have hbs1 := HBS.out.off ho1 (hno _ (by omega) HSZ.out)
  have HBN1 := Lib.hid hbn1
  have HBS1 := Lib.hid hbs1
  have HKK := Lib.hid (show ∀ b ∈ [w.heap.size, w.heap.size + 1], w.heap.size ≤ b ∧ b < W.heap.size from fun b hb => by
    have := HSZ.out
    simp at hb
    omega)
  clear h1 ho1 hp1 hno HSTEP
  have hcn := hbn1.cell
  have hfn := hbn1.frozen
  have hln := hbn1.lt
  have hcs := hbs1.cell
  have hfs := hbs1.frozen
  have hls := hbs1.lt
  clear hbn1 hbs1
  go_wp2_with fail
  obtain ⟨k1, k2, k3⟩ := put7 (a := .string ⟨#[]⟩) (b := .int .i64 0) (c := .string ⟨#[]⟩) (d := .int .i64 0) (x := .int .i64 0) (y := .int .i64 0) (z := .int .i64 0) HBN1.out HBS1.out
  have hc1 := k1.cell
  have hc2 := k2.cell
  have K3 := Lib.hid k3
  clear k1 k2 k3 hcn hfn hln hcs hfs hls
  refine bodyPost_ret (v := .tuple #[.agg #[.string ⟨#[]⟩, .int .i64 0, .string ⟨#[]⟩, .int .i64 0], .agg #[.int .i64 0, .int .i64 0, .int .i64 0], .int .i64 75]) ?_ rfl ?_
  · have hres : Tryz.f20.results = #[.cell 4 30, .cell 5 39, .tmp 6] := rfl
    simp only [results, hres]
    go_simp
  · exact ⟨rfl, DSTo.own H.out HOF.out HT.out K3.out HKK.out⟩

end Go.Proofs.YtgcfkljooabjjaaGreatDoor

/- hawserlaw07.ask over a disk that is off: it answers ErrOff and zero values; the disk stays. Conditions: what each contract states. -/
namespace Go.Proofs.YtgcfkljooabjjaaGreatDoor
open Go.RowKit Go.Op Go.Maps

structure CallP where
  what : Int
  path : ByteArray
  to_ : ByteArray
  data : ByteArray
  mode : Int
def callV (c : CallP) : Value := .agg #[.int .i64 c.what, .string c.path, .string c.to_, .string c.data, .int .i64 c.mode]
theorem Blk.new3' (w : World) (o p q : Obj) (t : TypeId) (cs : Array Value) : Blk ((((w.alloc o).alloc p).alloc q).alloc (.cells cs t)) (w.heap.size + 3) t cs := by
  have := Blk.new (((w.alloc o).alloc p).alloc q) t cs
  simpa using this
theorem Blk.new4' (w : World) (o p q r : Obj) (t : TypeId) (cs : Array Value) : Blk (((((w.alloc o).alloc p).alloc q).alloc r).alloc (.cells cs t)) (w.heap.size + 4) t cs := by
  have := Blk.new ((((w.alloc o).alloc p).alloc q).alloc r) t cs
  simpa using this
set_option maxRecDepth 100000 in
set_option maxHeartbeats 16000000 in
theorem ask_off (p n : Nat) (G : Geo) (D : PDisk) (c : CallP) (w : World) (h : DS w p G D n) (hn : n ≤ 1000000) (hoff : D.off = true) (h10 : c.what ≠ 10) :
    Calls Tryz.prog 35 #[.pointer (some ⟨p, 0, none⟩), callV c] w fun e w' => (∃ k : Int, e = .returned (.tuple #[.int .i64 k, .agg #[.string ⟨#[]⟩, .int .i64 0, .string ⟨#[]⟩, .int .i64 0], .agg #[.int .i64 0, .int .i64 0, .int .i64 0], .slice none 0 0]) ∧ (0 ≤ c.what → c.what ≤ 9 → k = 75)) ∧ DSTo w p G.parts w' D (n + 1) := by
  obtain ⟨what, path, q, data, mode⟩ := c
  have H := Lib.hid h
  have HN := Lib.hid hn
  have HOFF := Lib.hid hoff
  have h10 : what ≠ 10 := h10
  show Calls Tryz.prog 35 #[.pointer (some ⟨p, 0, none⟩), .agg #[.int .i64 what, .string path, .string q, .string data, .int .i64 mode]] w fun e w' => (∃ k : Int, e = .returned (.tuple #[.int .i64 k, .agg #[.string ⟨#[]⟩, .int .i64 0, .string ⟨#[]⟩, .int .i64 0], .agg #[.int .i64 0, .int .i64 0, .int .i64 0], .slice none 0 0]) ∧ (0 ≤ what → what ≤ 9 → k = 75)) ∧ DSTo w p G.parts w' D (n + 1)
  clear h hn hoff
  go_enter Tryz.func35, Tryz.ntmps35
  go_upto_region 5 with fail
  refine code_gen (fun W => Blk W w.heap.size 77 #[.int .i64 what, .string path, .string q, .string data, .int .i64 mode] ∧ Blk W (w.heap.size + 1) 30 #[.string ⟨#[]⟩, .int .i64 0, .string ⟨#[]⟩, .int .i64 0] ∧ Blk W (w.heap.size + 2) 39 #[.int .i64 0, .int .i64 0, .int .i64 0] ∧ Blk W (w.heap.size + 3) 30 #[.string ⟨#[]⟩, .int .i64 0, .string ⟨#[]⟩, .int .i64 0] ∧ Blk W (w.heap.size + 4) 39 #[.int .i64 0, .int .i64 0, .int .i64 0] ∧ Off [] w W ∧ w.heap.size + 4 < W.heap.size)
    ⟨((((Blk.new w _ _).alloc _).alloc _).alloc _).alloc _, (((Blk.new1 w _ _ _).alloc _).alloc _).alloc _, ((Blk.new2 w _ _ _ _).alloc _).alloc _, (Blk.new3' w _ _ _ _ _).alloc _, Blk.new4' w _ _ _ _ _ _, (((((Off.refl _ _).alloc _).alloc _).alloc _).alloc _).alloc _, by simp⟩ ?_
  rintro W ⟨hb0, hb1, hb2, hb3, hb4, hof, hsz⟩
  have HB1 := Lib.hid hb1
  have HB2 := Lib.hid hb2
  have HB3 := Lib.hid hb3
  have HB4 := Lib.hid hb4
  have HOF := Lib.hid hof
  have HSZ := Lib.hid hsz
  have hc0 := hb0.cell
  have HNO := Lib.hid (show ∀ b, w.heap.size ≤ b → b < W.heap.size → b ∉ p :: G.parts from fun b hb _ hm => by
    rcases List.mem_cons.1 hm with rfl | hm
    · have := H.out.m.blk.lt; omega
    · have := H.out.m.parts.lt hm; omega)
  have HKK := Lib.hid (show ∀ b ∈ [w.heap.size + 1, w.heap.size + 2, w.heap.size + 3, w.heap.size + 4], w.heap.size ≤ b ∧ b < W.heap.size from fun b hb => by
    have := HSZ.out
    simp at hb
    omega)
  clear hb0 hb1 hb2 hb3 hb4 hof hsz
  by_cases hk0 : what = 0
  · subst hk0
    have hop := Lib.hid (off_write p n G D path data mode W (H.out.off HOF.out) HN.out HOFF.out)
    go_wp2_with fail
    refine hop.out.mono ?_
    rintro e w1 ⟨rfl, hT⟩
    have HT := Lib.hid hT
    clear hT hop
    obtain ⟨G1, h1, ho1, hp1⟩ := HT.out
    have hb1 := HB1.out.off ho1 (HNO.out _ (by omega) (by have := HSZ.out; omega))
    have hb2 := HB2.out.off ho1 (HNO.out _ (by omega) (by have := HSZ.out; omega))
    have hb3 := HB3.out.off ho1 (HNO.out _ (by omega) (by have := HSZ.out; omega))
    have hb4 := HB4.out.off ho1 (HNO.out _ (by omega) (by have := HSZ.out; omega))
    clear h1 ho1 hp1
    go_upto_region 28 with fail
    refine code_gen (fun W2 => Blk W2 (w.heap.size + 1) 30 #[.string ⟨#[]⟩, .int .i64 0, .string ⟨#[]⟩, .int .i64 0] ∧ Blk W2 (w.heap.size + 2) 39 #[.int .i64 0, .int .i64 0, .int .i64 0] ∧ Blk W2 (w.heap.size + 3) 30 #[.string ⟨#[]⟩, .int .i64 0, .string ⟨#[]⟩, .int .i64 0] ∧ Blk W2 (w.heap.size + 4) 39 #[.int .i64 0, .int .i64 0, .int .i64 0] ∧ Off [w.heap.size + 3, w.heap.size + 4] w1 W2) ⟨hb1, hb2, hb3, hb4, Off.refl _ _⟩ ?_
    clear hb1 hb2 hb3 hb4
    rintro W2 ⟨hb1, hb2, hb3, hb4, ho2⟩
    have hc1 := hb1.cell
    have hf1 := hb1.frozen
    have hl1 := hb1.lt
    have HC1 := Lib.hid hb1
    have hc2 := hb2.cell
    have hf2 := hb2.frozen
    have hl2 := hb2.lt
    have HC2 := Lib.hid hb2
    have hc3 := hb3.cell
    have hc4 := hb4.cell
    have HO2 := Lib.hid ho2
    clear hb1 hb2 hb3 hb4 ho2
    go_region
    obtain ⟨k1, k2, k3⟩ := put7 (a := .string ⟨#[]⟩) (b := .int .i64 0) (c := .string ⟨#[]⟩) (d := .int .i64 0) (x := .int .i64 0) (y := .int .i64 0) (z := .int .i64 0) HC1.out HC2.out
    have he1 := k1.drew.cell
    have he2 := k2.drew.cell
    have K3 := Lib.hid k3.drew
    clear k1 k2 k3 hc1 hf1 hl1 hc2 hf2 hl2 hc3 hc4
    go_wp2_with fail
    refine bodyPost_ret (v := .tuple #[.int .i64 75, .agg #[.string ⟨#[]⟩, .int .i64 0, .string ⟨#[]⟩, .int .i64 0], .agg #[.int .i64 0, .int .i64 0, .int .i64 0], .slice none 0 0]) ?_ rfl ?_
    · have hres : Tryz.f35.results = #[.tmp 4, .cell 5 30, .cell 6 39, .tmp 7] := rfl
      simp only [results, hres]
      go_simp
    · exact ⟨⟨75, rfl, fun _ _ => rfl⟩, DSTo.own H.out HOF.out HT.out ((HO2.out.mono (fun _ _ h => by simp at h ⊢; omega)).trans (K3.out.mono (fun _ _ h => by simp at h ⊢; omega)) (fun _ _ h => h)) HKK.out⟩
  by_cases hk1 : what = 1
  · subst hk1
    have hop := Lib.hid (off_mkdir p n G D path W (H.out.off HOF.out) HN.out HOFF.out)
    go_wp2_with fail
    refine hop.out.mono ?_
    rintro e w1 ⟨rfl, hT⟩
    have HT := Lib.hid hT
    clear hT hop
    obtain ⟨G1, h1, ho1, hp1⟩ := HT.out
    have hb1 := HB1.out.off ho1 (HNO.out _ (by omega) (by have := HSZ.out; omega))
    have hb2 := HB2.out.off ho1 (HNO.out _ (by omega) (by have := HSZ.out; omega))
    have hb3 := HB3.out.off ho1 (HNO.out _ (by omega) (by have := HSZ.out; omega))
    have hb4 := HB4.out.off ho1 (HNO.out _ (by omega) (by have := HSZ.out; omega))
    clear h1 ho1 hp1
    go_upto_region 28 with fail
    refine code_gen (fun W2 => Blk W2 (w.heap.size + 1) 30 #[.string ⟨#[]⟩, .int .i64 0, .string ⟨#[]⟩, .int .i64 0] ∧ Blk W2 (w.heap.size + 2) 39 #[.int .i64 0, .int .i64 0, .int .i64 0] ∧ Blk W2 (w.heap.size + 3) 30 #[.string ⟨#[]⟩, .int .i64 0, .string ⟨#[]⟩, .int .i64 0] ∧ Blk W2 (w.heap.size + 4) 39 #[.int .i64 0, .int .i64 0, .int .i64 0] ∧ Off [w.heap.size + 3, w.heap.size + 4] w1 W2) ⟨hb1, hb2, hb3, hb4, Off.refl _ _⟩ ?_
    clear hb1 hb2 hb3 hb4
    rintro W2 ⟨hb1, hb2, hb3, hb4, ho2⟩
    have hc1 := hb1.cell
    have hf1 := hb1.frozen
    have hl1 := hb1.lt
    have HC1 := Lib.hid hb1
    have hc2 := hb2.cell
    have hf2 := hb2.frozen
    have hl2 := hb2.lt
    have HC2 := Lib.hid hb2
    have hc3 := hb3.cell
    have hc4 := hb4.cell
    have HO2 := Lib.hid ho2
    clear hb1 hb2 hb3 hb4 ho2
    go_region
    obtain ⟨k1, k2, k3⟩ := put7 (a := .string ⟨#[]⟩) (b := .int .i64 0) (c := .string ⟨#[]⟩) (d := .int .i64 0) (x := .int .i64 0) (y := .int .i64 0) (z := .int .i64 0) HC1.out HC2.out
    have he1 := k1.drew.cell
    have he2 := k2.drew.cell
    have K3 := Lib.hid k3.drew
    clear k1 k2 k3 hc1 hf1 hl1 hc2 hf2 hl2 hc3 hc4
    go_wp2_with fail
    refine bodyPost_ret (v := .tuple #[.int .i64 75, .agg #[.string ⟨#[]⟩, .int .i64 0, .string ⟨#[]⟩, .int .i64 0], .agg #[.int .i64 0, .int .i64 0, .int .i64 0], .slice none 0 0]) ?_ rfl ?_
    · have hres : Tryz.f35.results = #[.tmp 4, .cell 5 30, .cell 6 39, .tmp 7] := rfl
      simp only [results, hres]
      go_simp
    · exact ⟨⟨75, rfl, fun _ _ => rfl⟩, DSTo.own H.out HOF.out HT.out ((HO2.out.mono (fun _ _ h => by simp at h ⊢; omega)).trans (K3.out.mono (fun _ _ h => by simp at h ⊢; omega)) (fun _ _ h => h)) HKK.out⟩
  by_cases hk2 : what = 2
  · subst hk2
    have hop := Lib.hid (off_link p n G D path q W (H.out.off HOF.out) HN.out HOFF.out)
    go_wp2_with fail
    refine hop.out.mono ?_
    rintro e w1 ⟨rfl, hT⟩
    have HT := Lib.hid hT
    clear hT hop
    obtain ⟨G1, h1, ho1, hp1⟩ := HT.out
    have hb1 := HB1.out.off ho1 (HNO.out _ (by omega) (by have := HSZ.out; omega))
    have hb2 := HB2.out.off ho1 (HNO.out _ (by omega) (by have := HSZ.out; omega))
    have hb3 := HB3.out.off ho1 (HNO.out _ (by omega) (by have := HSZ.out; omega))
    have hb4 := HB4.out.off ho1 (HNO.out _ (by omega) (by have := HSZ.out; omega))
    clear h1 ho1 hp1
    go_upto_region 28 with fail
    refine code_gen (fun W2 => Blk W2 (w.heap.size + 1) 30 #[.string ⟨#[]⟩, .int .i64 0, .string ⟨#[]⟩, .int .i64 0] ∧ Blk W2 (w.heap.size + 2) 39 #[.int .i64 0, .int .i64 0, .int .i64 0] ∧ Blk W2 (w.heap.size + 3) 30 #[.string ⟨#[]⟩, .int .i64 0, .string ⟨#[]⟩, .int .i64 0] ∧ Blk W2 (w.heap.size + 4) 39 #[.int .i64 0, .int .i64 0, .int .i64 0] ∧ Off [w.heap.size + 3, w.heap.size + 4] w1 W2) ⟨hb1, hb2, hb3, hb4, Off.refl _ _⟩ ?_
    clear hb1 hb2 hb3 hb4
    rintro W2 ⟨hb1, hb2, hb3, hb4, ho2⟩
    have hc1 := hb1.cell
    have hf1 := hb1.frozen
    have hl1 := hb1.lt
    have HC1 := Lib.hid hb1
    have hc2 := hb2.cell
    have hf2 := hb2.frozen
    have hl2 := hb2.lt
    have HC2 := Lib.hid hb2
    have hc3 := hb3.cell
    have hc4 := hb4.cell
    have HO2 := Lib.hid ho2
    clear hb1 hb2 hb3 hb4 ho2
    go_region
    obtain ⟨k1, k2, k3⟩ := put7 (a := .string ⟨#[]⟩) (b := .int .i64 0) (c := .string ⟨#[]⟩) (d := .int .i64 0) (x := .int .i64 0) (y := .int .i64 0) (z := .int .i64 0) HC1.out HC2.out
    have he1 := k1.drew.cell
    have he2 := k2.drew.cell
    have K3 := Lib.hid k3.drew
    clear k1 k2 k3 hc1 hf1 hl1 hc2 hf2 hl2 hc3 hc4
    go_wp2_with fail
    refine bodyPost_ret (v := .tuple #[.int .i64 75, .agg #[.string ⟨#[]⟩, .int .i64 0, .string ⟨#[]⟩, .int .i64 0], .agg #[.int .i64 0, .int .i64 0, .int .i64 0], .slice none 0 0]) ?_ rfl ?_
    · have hres : Tryz.f35.results = #[.tmp 4, .cell 5 30, .cell 6 39, .tmp 7] := rfl
      simp only [results, hres]
      go_simp
    · exact ⟨⟨75, rfl, fun _ _ => rfl⟩, DSTo.own H.out HOF.out HT.out ((HO2.out.mono (fun _ _ h => by simp at h ⊢; omega)).trans (K3.out.mono (fun _ _ h => by simp at h ⊢; omega)) (fun _ _ h => h)) HKK.out⟩
  by_cases hk3 : what = 3
  · subst hk3
    have hop := Lib.hid (off_remove p n G D path W (H.out.off HOF.out) HN.out HOFF.out)
    go_wp2_with fail
    refine hop.out.mono ?_
    rintro e w1 ⟨rfl, hT⟩
    have HT := Lib.hid hT
    clear hT hop
    obtain ⟨G1, h1, ho1, hp1⟩ := HT.out
    have hb1 := HB1.out.off ho1 (HNO.out _ (by omega) (by have := HSZ.out; omega))
    have hb2 := HB2.out.off ho1 (HNO.out _ (by omega) (by have := HSZ.out; omega))
    have hb3 := HB3.out.off ho1 (HNO.out _ (by omega) (by have := HSZ.out; omega))
    have hb4 := HB4.out.off ho1 (HNO.out _ (by omega) (by have := HSZ.out; omega))
    clear h1 ho1 hp1
    go_upto_region 28 with fail
    refine code_gen (fun W2 => Blk W2 (w.heap.size + 1) 30 #[.string ⟨#[]⟩, .int .i64 0, .string ⟨#[]⟩, .int .i64 0] ∧ Blk W2 (w.heap.size + 2) 39 #[.int .i64 0, .int .i64 0, .int .i64 0] ∧ Blk W2 (w.heap.size + 3) 30 #[.string ⟨#[]⟩, .int .i64 0, .string ⟨#[]⟩, .int .i64 0] ∧ Blk W2 (w.heap.size + 4) 39 #[.int .i64 0, .int .i64 0, .int .i64 0] ∧ Off [w.heap.size + 3, w.heap.size + 4] w1 W2) ⟨hb1, hb2, hb3, hb4, Off.refl _ _⟩ ?_
    clear hb1 hb2 hb3 hb4
    rintro W2 ⟨hb1, hb2, hb3, hb4, ho2⟩
    have hc1 := hb1.cell
    have hf1 := hb1.frozen
    have hl1 := hb1.lt
    have HC1 := Lib.hid hb1
    have hc2 := hb2.cell
    have hf2 := hb2.frozen
    have hl2 := hb2.lt
    have HC2 := Lib.hid hb2
    have hc3 := hb3.cell
    have hc4 := hb4.cell
    have HO2 := Lib.hid ho2
    clear hb1 hb2 hb3 hb4 ho2
    go_region
    obtain ⟨k1, k2, k3⟩ := put7 (a := .string ⟨#[]⟩) (b := .int .i64 0) (c := .string ⟨#[]⟩) (d := .int .i64 0) (x := .int .i64 0) (y := .int .i64 0) (z := .int .i64 0) HC1.out HC2.out
    have he1 := k1.drew.cell
    have he2 := k2.drew.cell
    have K3 := Lib.hid k3.drew
    clear k1 k2 k3 hc1 hf1 hl1 hc2 hf2 hl2 hc3 hc4
    go_wp2_with fail
    refine bodyPost_ret (v := .tuple #[.int .i64 75, .agg #[.string ⟨#[]⟩, .int .i64 0, .string ⟨#[]⟩, .int .i64 0], .agg #[.int .i64 0, .int .i64 0, .int .i64 0], .slice none 0 0]) ?_ rfl ?_
    · have hres : Tryz.f35.results = #[.tmp 4, .cell 5 30, .cell 6 39, .tmp 7] := rfl
      simp only [results, hres]
      go_simp
    · exact ⟨⟨75, rfl, fun _ _ => rfl⟩, DSTo.own H.out HOF.out HT.out ((HO2.out.mono (fun _ _ h => by simp at h ⊢; omega)).trans (K3.out.mono (fun _ _ h => by simp at h ⊢; omega)) (fun _ _ h => h)) HKK.out⟩
  by_cases hk4 : what = 4
  · subst hk4
    have hop := Lib.hid (off_move p n G D path q W (H.out.off HOF.out) HN.out HOFF.out)
    go_wp2_with fail
    refine hop.out.mono ?_
    rintro e w1 ⟨rfl, hT⟩
    have HT := Lib.hid hT
    clear hT hop
    obtain ⟨G1, h1, ho1, hp1⟩ := HT.out
    have hb1 := HB1.out.off ho1 (HNO.out _ (by omega) (by have := HSZ.out; omega))
    have hb2 := HB2.out.off ho1 (HNO.out _ (by omega) (by have := HSZ.out; omega))
    have hb3 := HB3.out.off ho1 (HNO.out _ (by omega) (by have := HSZ.out; omega))
    have hb4 := HB4.out.off ho1 (HNO.out _ (by omega) (by have := HSZ.out; omega))
    clear h1 ho1 hp1
    go_upto_region 28 with fail
    refine code_gen (fun W2 => Blk W2 (w.heap.size + 1) 30 #[.string ⟨#[]⟩, .int .i64 0, .string ⟨#[]⟩, .int .i64 0] ∧ Blk W2 (w.heap.size + 2) 39 #[.int .i64 0, .int .i64 0, .int .i64 0] ∧ Blk W2 (w.heap.size + 3) 30 #[.string ⟨#[]⟩, .int .i64 0, .string ⟨#[]⟩, .int .i64 0] ∧ Blk W2 (w.heap.size + 4) 39 #[.int .i64 0, .int .i64 0, .int .i64 0] ∧ Off [w.heap.size + 3, w.heap.size + 4] w1 W2) ⟨hb1, hb2, hb3, hb4, Off.refl _ _⟩ ?_
    clear hb1 hb2 hb3 hb4
    rintro W2 ⟨hb1, hb2, hb3, hb4, ho2⟩
    have hc1 := hb1.cell
    have hf1 := hb1.frozen
    have hl1 := hb1.lt
    have HC1 := Lib.hid hb1
    have hc2 := hb2.cell
    have hf2 := hb2.frozen
    have hl2 := hb2.lt
    have HC2 := Lib.hid hb2
    have hc3 := hb3.cell
    have hc4 := hb4.cell
    have HO2 := Lib.hid ho2
    clear hb1 hb2 hb3 hb4 ho2
    go_region
    obtain ⟨k1, k2, k3⟩ := put7 (a := .string ⟨#[]⟩) (b := .int .i64 0) (c := .string ⟨#[]⟩) (d := .int .i64 0) (x := .int .i64 0) (y := .int .i64 0) (z := .int .i64 0) HC1.out HC2.out
    have he1 := k1.drew.cell
    have he2 := k2.drew.cell
    have K3 := Lib.hid k3.drew
    clear k1 k2 k3 hc1 hf1 hl1 hc2 hf2 hl2 hc3 hc4
    go_wp2_with fail
    refine bodyPost_ret (v := .tuple #[.int .i64 75, .agg #[.string ⟨#[]⟩, .int .i64 0, .string ⟨#[]⟩, .int .i64 0], .agg #[.int .i64 0, .int .i64 0, .int .i64 0], .slice none 0 0]) ?_ rfl ?_
    · have hres : Tryz.f35.results = #[.tmp 4, .cell 5 30, .cell 6 39, .tmp 7] := rfl
      simp only [results, hres]
      go_simp
    · exact ⟨⟨75, rfl, fun _ _ => rfl⟩, DSTo.own H.out HOF.out HT.out ((HO2.out.mono (fun _ _ h => by simp at h ⊢; omega)).trans (K3.out.mono (fun _ _ h => by simp at h ⊢; omega)) (fun _ _ h => h)) HKK.out⟩
  by_cases hk5 : what = 5
  · subst hk5
    have hop := Lib.hid (off_replace p n G D path q W (H.out.off HOF.out) HN.out HOFF.out)
    go_wp2_with fail
    refine hop.out.mono ?_
    rintro e w1 ⟨rfl, hT⟩
    have HT := Lib.hid hT
    clear hT hop
    obtain ⟨G1, h1, ho1, hp1⟩ := HT.out
    have hb1 := HB1.out.off ho1 (HNO.out _ (by omega) (by have := HSZ.out; omega))
    have hb2 := HB2.out.off ho1 (HNO.out _ (by omega) (by have := HSZ.out; omega))
    have hb3 := HB3.out.off ho1 (HNO.out _ (by omega) (by have := HSZ.out; omega))
    have hb4 := HB4.out.off ho1 (HNO.out _ (by omega) (by have := HSZ.out; omega))
    clear h1 ho1 hp1
    go_upto_region 28 with fail
    refine code_gen (fun W2 => Blk W2 (w.heap.size + 1) 30 #[.string ⟨#[]⟩, .int .i64 0, .string ⟨#[]⟩, .int .i64 0] ∧ Blk W2 (w.heap.size + 2) 39 #[.int .i64 0, .int .i64 0, .int .i64 0] ∧ Blk W2 (w.heap.size + 3) 30 #[.string ⟨#[]⟩, .int .i64 0, .string ⟨#[]⟩, .int .i64 0] ∧ Blk W2 (w.heap.size + 4) 39 #[.int .i64 0, .int .i64 0, .int .i64 0] ∧ Off [w.heap.size + 3, w.heap.size + 4] w1 W2) ⟨hb1, hb2, hb3, hb4, Off.refl _ _⟩ ?_
    clear hb1 hb2 hb3 hb4
    rintro W2 ⟨hb1, hb2, hb3, hb4, ho2⟩
    have hc1 := hb1.cell
    have hf1 := hb1.frozen
    have hl1 := hb1.lt
    have HC1 := Lib.hid hb1
    have hc2 := hb2.cell
    have hf2 := hb2.frozen
    have hl2 := hb2.lt
    have HC2 := Lib.hid hb2
    have hc3 := hb3.cell
    have hc4 := hb4.cell
    have HO2 := Lib.hid ho2
    clear hb1 hb2 hb3 hb4 ho2
    go_region
    obtain ⟨k1, k2, k3⟩ := put7 (a := .string ⟨#[]⟩) (b := .int .i64 0) (c := .string ⟨#[]⟩) (d := .int .i64 0) (x := .int .i64 0) (y := .int .i64 0) (z := .int .i64 0) HC1.out HC2.out
    have he1 := k1.drew.cell
    have he2 := k2.drew.cell
    have K3 := Lib.hid k3.drew
    clear k1 k2 k3 hc1 hf1 hl1 hc2 hf2 hl2 hc3 hc4
    go_wp2_with fail
    refine bodyPost_ret (v := .tuple #[.int .i64 75, .agg #[.string ⟨#[]⟩, .int .i64 0, .string ⟨#[]⟩, .int .i64 0], .agg #[.int .i64 0, .int .i64 0, .int .i64 0], .slice none 0 0]) ?_ rfl ?_
    · have hres : Tryz.f35.results = #[.tmp 4, .cell 5 30, .cell 6 39, .tmp 7] := rfl
      simp only [results, hres]
      go_simp
    · exact ⟨⟨75, rfl, fun _ _ => rfl⟩, DSTo.own H.out HOF.out HT.out ((HO2.out.mono (fun _ _ h => by simp at h ⊢; omega)).trans (K3.out.mono (fun _ _ h => by simp at h ⊢; omega)) (fun _ _ h => h)) HKK.out⟩
  by_cases hk6 : what = 6
  · subst hk6
    have hop := Lib.hid (off_sync p n G D path W (H.out.off HOF.out) HN.out HOFF.out)
    go_wp2_with fail
    refine hop.out.mono ?_
    rintro e w1 ⟨rfl, hT⟩
    have HT := Lib.hid hT
    clear hT hop
    obtain ⟨G1, h1, ho1, hp1⟩ := HT.out
    have hb1 := HB1.out.off ho1 (HNO.out _ (by omega) (by have := HSZ.out; omega))
    have hb2 := HB2.out.off ho1 (HNO.out _ (by omega) (by have := HSZ.out; omega))
    have hb3 := HB3.out.off ho1 (HNO.out _ (by omega) (by have := HSZ.out; omega))
    have hb4 := HB4.out.off ho1 (HNO.out _ (by omega) (by have := HSZ.out; omega))
    clear h1 ho1 hp1
    go_upto_region 28 with fail
    refine code_gen (fun W2 => Blk W2 (w.heap.size + 1) 30 #[.string ⟨#[]⟩, .int .i64 0, .string ⟨#[]⟩, .int .i64 0] ∧ Blk W2 (w.heap.size + 2) 39 #[.int .i64 0, .int .i64 0, .int .i64 0] ∧ Blk W2 (w.heap.size + 3) 30 #[.string ⟨#[]⟩, .int .i64 0, .string ⟨#[]⟩, .int .i64 0] ∧ Blk W2 (w.heap.size + 4) 39 #[.int .i64 0, .int .i64 0, .int .i64 0] ∧ Off [w.heap.size + 3, w.heap.size + 4] w1 W2) ⟨hb1, hb2, hb3, hb4, Off.refl _ _⟩ ?_
    clear hb1 hb2 hb3 hb4
    rintro W2 ⟨hb1, hb2, hb3, hb4, ho2⟩
    have hc1 := hb1.cell
    have hf1 := hb1.frozen
    have hl1 := hb1.lt
    have HC1 := Lib.hid hb1
    have hc2 := hb2.cell
    have hf2 := hb2.frozen
    have hl2 := hb2.lt
    have HC2 := Lib.hid hb2
    have hc3 := hb3.cell
    have hc4 := hb4.cell
    have HO2 := Lib.hid ho2
    clear hb1 hb2 hb3 hb4 ho2
    go_region
    obtain ⟨k1, k2, k3⟩ := put7 (a := .string ⟨#[]⟩) (b := .int .i64 0) (c := .string ⟨#[]⟩) (d := .int .i64 0) (x := .int .i64 0) (y := .int .i64 0) (z := .int .i64 0) HC1.out HC2.out
    have he1 := k1.drew.cell
    have he2 := k2.drew.cell
    have K3 := Lib.hid k3.drew
    clear k1 k2 k3 hc1 hf1 hl1 hc2 hf2 hl2 hc3 hc4
    go_wp2_with fail
    refine bodyPost_ret (v := .tuple #[.int .i64 75, .agg #[.string ⟨#[]⟩, .int .i64 0, .string ⟨#[]⟩, .int .i64 0], .agg #[.int .i64 0, .int .i64 0, .int .i64 0], .slice none 0 0]) ?_ rfl ?_
    · have hres : Tryz.f35.results = #[.tmp 4, .cell 5 30, .cell 6 39, .tmp 7] := rfl
      simp only [results, hres]
      go_simp
    · exact ⟨⟨75, rfl, fun _ _ => rfl⟩, DSTo.own H.out HOF.out HT.out ((HO2.out.mono (fun _ _ h => by simp at h ⊢; omega)).trans (K3.out.mono (fun _ _ h => by simp at h ⊢; omega)) (fun _ _ h => h)) HKK.out⟩
  by_cases hk7 : what = 7
  · subst hk7
    have hop := Lib.hid (off_flush p n G D  W (H.out.off HOF.out) HN.out HOFF.out)
    go_wp2_with fail
    refine hop.out.mono ?_
    rintro e w1 ⟨rfl, hT⟩
    have HT := Lib.hid hT
    clear hT hop
    obtain ⟨G1, h1, ho1, hp1⟩ := HT.out
    have hb1 := HB1.out.off ho1 (HNO.out _ (by omega) (by have := HSZ.out; omega))
    have hb2 := HB2.out.off ho1 (HNO.out _ (by omega) (by have := HSZ.out; omega))
    have hb3 := HB3.out.off ho1 (HNO.out _ (by omega) (by have := HSZ.out; omega))
    have hb4 := HB4.out.off ho1 (HNO.out _ (by omega) (by have := HSZ.out; omega))
    clear h1 ho1 hp1
    go_upto_region 28 with fail
    refine code_gen (fun W2 => Blk W2 (w.heap.size + 1) 30 #[.string ⟨#[]⟩, .int .i64 0, .string ⟨#[]⟩, .int .i64 0] ∧ Blk W2 (w.heap.size + 2) 39 #[.int .i64 0, .int .i64 0, .int .i64 0] ∧ Blk W2 (w.heap.size + 3) 30 #[.string ⟨#[]⟩, .int .i64 0, .string ⟨#[]⟩, .int .i64 0] ∧ Blk W2 (w.heap.size + 4) 39 #[.int .i64 0, .int .i64 0, .int .i64 0] ∧ Off [w.heap.size + 3, w.heap.size + 4] w1 W2) ⟨hb1, hb2, hb3, hb4, Off.refl _ _⟩ ?_
    clear hb1 hb2 hb3 hb4
    rintro W2 ⟨hb1, hb2, hb3, hb4, ho2⟩
    have hc1 := hb1.cell
    have hf1 := hb1.frozen
    have hl1 := hb1.lt
    have HC1 := Lib.hid hb1
    have hc2 := hb2.cell
    have hf2 := hb2.frozen
    have hl2 := hb2.lt
    have HC2 := Lib.hid hb2
    have hc3 := hb3.cell
    have hc4 := hb4.cell
    have HO2 := Lib.hid ho2
    clear hb1 hb2 hb3 hb4 ho2
    go_region
    obtain ⟨k1, k2, k3⟩ := put7 (a := .string ⟨#[]⟩) (b := .int .i64 0) (c := .string ⟨#[]⟩) (d := .int .i64 0) (x := .int .i64 0) (y := .int .i64 0) (z := .int .i64 0) HC1.out HC2.out
    have he1 := k1.drew.cell
    have he2 := k2.drew.cell
    have K3 := Lib.hid k3.drew
    clear k1 k2 k3 hc1 hf1 hl1 hc2 hf2 hl2 hc3 hc4
    go_wp2_with fail
    refine bodyPost_ret (v := .tuple #[.int .i64 75, .agg #[.string ⟨#[]⟩, .int .i64 0, .string ⟨#[]⟩, .int .i64 0], .agg #[.int .i64 0, .int .i64 0, .int .i64 0], .slice none 0 0]) ?_ rfl ?_
    · have hres : Tryz.f35.results = #[.tmp 4, .cell 5 30, .cell 6 39, .tmp 7] := rfl
      simp only [results, hres]
      go_simp
    · exact ⟨⟨75, rfl, fun _ _ => rfl⟩, DSTo.own H.out HOF.out HT.out ((HO2.out.mono (fun _ _ h => by simp at h ⊢; omega)).trans (K3.out.mono (fun _ _ h => by simp at h ⊢; omega)) (fun _ _ h => h)) HKK.out⟩
  by_cases hk8 : what = 8
  · subst hk8
    have hop := Lib.hid (off_get p n G D path W (H.out.off HOF.out) HN.out HOFF.out)
    go_wp2_with fail
    refine hop.out.mono ?_
    rintro e w1 ⟨rfl, hT⟩
    have HT := Lib.hid hT
    clear hT hop
    obtain ⟨G1, h1, ho1, hp1⟩ := HT.out
    have hb1 := HB1.out.off ho1 (HNO.out _ (by omega) (by have := HSZ.out; omega))
    have hb2 := HB2.out.off ho1 (HNO.out _ (by omega) (by have := HSZ.out; omega))
    have hb3 := HB3.out.off ho1 (HNO.out _ (by omega) (by have := HSZ.out; omega))
    have hb4 := HB4.out.off ho1 (HNO.out _ (by omega) (by have := HSZ.out; omega))
    clear h1 ho1 hp1
    have hc3 := hb3.cell
    have hf3 := hb3.frozen
    have hl3 := hb3.lt
    have hc4 := hb4.cell
    have hf4 := hb4.frozen
    have hl4 := hb4.lt
    go_upto_region 28 with fail
    obtain ⟨k1, k2, k3⟩ := put7 (a := .string ⟨#[]⟩) (b := .int .i64 0) (c := .string ⟨#[]⟩) (d := .int .i64 0) (x := .int .i64 0) (y := .int .i64 0) (z := .int .i64 0) hb3 hb4
    have j1 := hb1.off k3 (by simp)
    have j2 := hb2.off k3 (by simp)
    refine code_gen (fun W2 => Blk W2 (w.heap.size + 1) 30 #[.string ⟨#[]⟩, .int .i64 0, .string ⟨#[]⟩, .int .i64 0] ∧ Blk W2 (w.heap.size + 2) 39 #[.int .i64 0, .int .i64 0, .int .i64 0] ∧ Blk W2 (w.heap.size + 3) 30 #[.string ⟨#[]⟩, .int .i64 0, .string ⟨#[]⟩, .int .i64 0] ∧ Blk W2 (w.heap.size + 4) 39 #[.int .i64 0, .int .i64 0, .int .i64 0] ∧ Off [w.heap.size + 3, w.heap.size + 4] w1 W2) ⟨j1, j2, k1, k2, k3⟩ ?_
    clear hc3 hf3 hl3 hc4 hf4 hl4 k1 k2 k3 j1 j2
    clear hb1 hb2 hb3 hb4
    rintro W2 ⟨hb1, hb2, hb3, hb4, ho2⟩
    have hc1 := hb1.cell
    have hf1 := hb1.frozen
    have hl1 := hb1.lt
    have HC1 := Lib.hid hb1
    have hc2 := hb2.cell
    have hf2 := hb2.frozen
    have hl2 := hb2.lt
    have HC2 := Lib.hid hb2
    have hc3 := hb3.cell
    have hc4 := hb4.cell
    have HO2 := Lib.hid ho2
    clear hb1 hb2 hb3 hb4 ho2
    go_region
    obtain ⟨k1, k2, k3⟩ := put7 (a := .string ⟨#[]⟩) (b := .int .i64 0) (c := .string ⟨#[]⟩) (d := .int .i64 0) (x := .int .i64 0) (y := .int .i64 0) (z := .int .i64 0) HC1.out HC2.out
    have he1 := k1.drew.cell
    have he2 := k2.drew.cell
    have K3 := Lib.hid k3.drew
    clear k1 k2 k3 hc1 hf1 hl1 hc2 hf2 hl2 hc3 hc4
    go_wp2_with fail
    refine bodyPost_ret (v := .tuple #[.int .i64 75, .agg #[.string ⟨#[]⟩, .int .i64 0, .string ⟨#[]⟩, .int .i64 0], .agg #[.int .i64 0, .int .i64 0, .int .i64 0], .slice none 0 0]) ?_ rfl ?_
    · have hres : Tryz.f35.results = #[.tmp 4, .cell 5 30, .cell 6 39, .tmp 7] := rfl
      simp only [results, hres]
      go_simp
    · exact ⟨⟨75, rfl, fun _ _ => rfl⟩, DSTo.own H.out HOF.out HT.out ((HO2.out.mono (fun _ _ h => by simp at h ⊢; omega)).trans (K3.out.mono (fun _ _ h => by simp at h ⊢; omega)) (fun _ _ h => h)) HKK.out⟩
  by_cases hk9 : what = 9
  · subst hk9
    have hop := Lib.hid (off_names p n G D path W (H.out.off HOF.out) HN.out HOFF.out)
    go_wp2_with fail
    refine hop.out.mono ?_
    rintro e w1 ⟨rfl, hT⟩
    have HT := Lib.hid hT
    clear hT hop
    obtain ⟨G1, h1, ho1, hp1⟩ := HT.out
    have hb1 := HB1.out.off ho1 (HNO.out _ (by omega) (by have := HSZ.out; omega))
    have hb2 := HB2.out.off ho1 (HNO.out _ (by omega) (by have := HSZ.out; omega))
    have hb3 := HB3.out.off ho1 (HNO.out _ (by omega) (by have := HSZ.out; omega))
    have hb4 := HB4.out.off ho1 (HNO.out _ (by omega) (by have := HSZ.out; omega))
    clear h1 ho1 hp1
    go_upto_region 28 with fail
    refine code_gen (fun W2 => Blk W2 (w.heap.size + 1) 30 #[.string ⟨#[]⟩, .int .i64 0, .string ⟨#[]⟩, .int .i64 0] ∧ Blk W2 (w.heap.size + 2) 39 #[.int .i64 0, .int .i64 0, .int .i64 0] ∧ Blk W2 (w.heap.size + 3) 30 #[.string ⟨#[]⟩, .int .i64 0, .string ⟨#[]⟩, .int .i64 0] ∧ Blk W2 (w.heap.size + 4) 39 #[.int .i64 0, .int .i64 0, .int .i64 0] ∧ Off [w.heap.size + 3, w.heap.size + 4] w1 W2) ⟨hb1, hb2, hb3, hb4, Off.refl _ _⟩ ?_
    clear hb1 hb2 hb3 hb4
    rintro W2 ⟨hb1, hb2, hb3, hb4, ho2⟩
    have hc1 := hb1.cell
    have hf1 := hb1.frozen
    have hl1 := hb1.lt
    have HC1 := Lib.hid hb1
    have hc2 := hb2.cell
    have hf2 := hb2.frozen
    have hl2 := hb2.lt
    have HC2 := Lib.hid hb2
    have hc3 := hb3.cell
    have hc4 := hb4.cell
    have HO2 := Lib.hid ho2
    clear hb1 hb2 hb3 hb4 ho2
    go_region
    obtain ⟨k1, k2, k3⟩ := put7 (a := .string ⟨#[]⟩) (b := .int .i64 0) (c := .string ⟨#[]⟩) (d := .int .i64 0) (x := .int .i64 0) (y := .int .i64 0) (z := .int .i64 0) HC1.out HC2.out
    have he1 := k1.drew.cell
    have he2 := k2.drew.cell
    have K3 := Lib.hid k3.drew
    clear k1 k2 k3 hc1 hf1 hl1 hc2 hf2 hl2 hc3 hc4
    go_wp2_with fail
    refine bodyPost_ret (v := .tuple #[.int .i64 75, .agg #[.string ⟨#[]⟩, .int .i64 0, .string ⟨#[]⟩, .int .i64 0], .agg #[.int .i64 0, .int .i64 0, .int .i64 0], .slice none 0 0]) ?_ rfl ?_
    · have hres : Tryz.f35.results = #[.tmp 4, .cell 5 30, .cell 6 39, .tmp 7] := rfl
      simp only [results, hres]
      go_simp
    · exact ⟨⟨75, rfl, fun _ _ => rfl⟩, DSTo.own H.out HOF.out HT.out ((HO2.out.mono (fun _ _ h => by simp at h ⊢; omega)).trans (K3.out.mono (fun _ _ h => by simp at h ⊢; omega)) (fun _ _ h => h)) HKK.out⟩
  have HT := Lib.hid (((H.out.off HOF.out).refl).le (Nat.le_succ n))
  have hb1 := HB1.out
  have hb2 := HB2.out
  have hb3 := HB3.out
  have hb4 := HB4.out
  go_upto_region 28 with fail
  refine code_gen (fun W2 => Blk W2 (w.heap.size + 1) 30 #[.string ⟨#[]⟩, .int .i64 0, .string ⟨#[]⟩, .int .i64 0] ∧ Blk W2 (w.heap.size + 2) 39 #[.int .i64 0, .int .i64 0, .int .i64 0] ∧ Blk W2 (w.heap.size + 3) 30 #[.string ⟨#[]⟩, .int .i64 0, .string ⟨#[]⟩, .int .i64 0] ∧ Blk W2 (w.heap.size + 4) 39 #[.int .i64 0, .int .i64 0, .int .i64 0] ∧ Off [w.heap.size + 3, w.heap.size + 4] W W2) ⟨hb1, hb2, hb3, hb4, Off.refl _ _⟩ ?_
  clear hb1 hb2 hb3 hb4
  rintro W2 ⟨hb1, hb2, hb3, hb4, ho2⟩
  have hc1 := hb1.cell
  have hf1 := hb1.frozen
  have hl1 := hb1.lt
  have HC1 := Lib.hid hb1
  have hc2 := hb2.cell
  have hf2 := hb2.frozen
  have hl2 := hb2.lt
  have HC2 := Lib.hid hb2
  have hc3 := hb3.cell
  have hc4 := hb4.cell
  have HO2 := Lib.hid ho2
  clear hb1 hb2 hb3 hb4 ho2
  go_region
  obtain ⟨k1, k2, k3⟩ := put7 (a := .string ⟨#[]⟩) (b := .int .i64 0) (c := .string ⟨#[]⟩) (d := .int .i64 0) (x := .int .i64 0) (y := .int .i64 0) (z := .int .i64 0) HC1.out HC2.out
  have he1 := k1.drew.cell
  have he2 := k2.drew.cell
  have K3 := Lib.hid k3.drew
  clear k1 k2 k3 hc1 hf1 hl1 hc2 hf2 hl2 hc3 hc4
  go_wp2_with fail
  refine bodyPost_ret (v := .tuple #[.int .i64 0, .agg #[.string ⟨#[]⟩, .int .i64 0, .string ⟨#[]⟩, .int .i64 0], .agg #[.int .i64 0, .int .i64 0, .int .i64 0], .slice none 0 0]) ?_ rfl ?_
  · have hres : Tryz.f35.results = #[.tmp 4, .cell 5 30, .cell 6 39, .tmp 7] := rfl
    simp only [results, hres]
    go_simp
  · exact ⟨⟨0, rfl, fun h1 h2 => by omega⟩, DSTo.own H.out HOF.out HT.out ((HO2.out.mono (fun _ _ h => by simp at h ⊢; omega)).trans (K3.out.mono (fun _ _ h => by simp at h ⊢; omega)) (fun _ _ h => h)) HKK.out⟩
end Go.Proofs.YtgcfkljooabjjaaGreatDoor

/- A disk's Trace; disk.New where there is no tree; a new disk's tree. Conditions: what each contract states. -/
namespace Go.Proofs.YtgcfkljooabjjaaGreatDoor
open Go.RowKit Go.Op Go.Maps

theorem did_one (fs : List DidP) : ∀ u ∈ didCells fs, u.oneCell' = true := by
  intro u hu
  obtain ⟨n, _, hn⟩ := List.mem_flatMap.1 hu
  simp at hn
  rcases hn with rfl | rfl | rfl <;> rfl
theorem did_len : ∀ (fs : List DidP), (didCells fs).length = fs.length * 3
  | [] => rfl
  | f :: fs => by
    unfold didCells at *
    rw [List.flatMap_cons, List.length_append, show (List.flatMap _ fs).length = fs.length * 3 from did_len fs]; simp; omega
set_option maxRecDepth 100000 in
set_option maxHeartbeats 4000000 in
theorem tclone_any (v : Value) (fs : List DidP) (w : World) (hR : w.ownsRow 0 73 3 v fs.length (didCells fs)) (hbig : fs.length ≤ 1048576) :
    Calls Tryz.prog 71 #[v] w fun e w' => ∃ v, e = .returned v ∧ w'.ownsRow w.heap.size 73 3 v fs.length (didCells fs) ∧ Off [] w w' := by
  obtain ⟨n, hn⟩ : ∃ n, fs.length = n := ⟨_, rfl⟩
  rw [hn] at hR hbig
  rw [hn]
  obtain ⟨i0, hi0, hz0, hz1, hz2⟩ := info_parts infoDid
  have q22 : ∀ (w : World) (a : Option Addr) (n c n' c' : Nat), (binOp .eql 67 (.slice a n c) (.slice none n' c')).run Tryz.prog w = .ok (.bool a.isNone) w := fun w a n c n' c' => Lib.run_eql_slice_nil w _ _ a n c n' c' Tryz.underlying67
  have hl := hR.1
  rcases hR.2 with ⟨rfl, h0⟩ | ⟨g, cap, cur, rfl, hb, hh, hc, _, hsz, ht⟩
  · subst h0
    obtain rfl : fs = [] := List.length_eq_zero_iff.1 hn
    clear hR
    go_enter Tryz.func71, Tryz.ntmps71
    go_wp2_with fail
    go_ret
    exact ⟨_, rfl, ⟨rfl, .inl ⟨rfl, rfl⟩⟩, Off.refl _ _⟩
  · have HC := Lib.hid (show ∀ (j : Nat) (u : Value), (didCells fs)[j]? = some u → w.cell? ((⟨g, 0, none⟩ : Addr).add j) = some u from fun j u hj => by
      have hB : Blk w g 73 cur := hh
      rw [addr_add, hB.cell]
      rw [← ht, List.getElem?_take] at hj
      split at hj
      · simpa using hj
      · cases hj)
    have HO := Lib.hid (did_one fs)
    have HCL := Lib.hid (show (didCells fs).length = n * 3 by rw [did_len, hn])
    clear hR hn hl hb hh hc hsz ht
    go_enter Tryz.func71, Tryz.ntmps71
    go_wp2_with (at_builtin; refine wpList_append_own _ rfl _ _ 67 rfl w.heap.size 73 i0 _ 3 48 Tryz.underlying67 hi0 hz0 hz1 hz2 rfl (by decide) _ _ _ rfl (World.ownsRow_made w #[] 0 (Nat.le_refl _) (Nat.zero_le _) rfl) (⟨g, 0, none⟩ : Addr) n cap (didCells fs) rfl HCL.out ?qc2 HO.out ?qc4 ?qc5 ?qc6 ?_)
    case qc2 =>
      intro j u hj
      exact Lib.cell?_alloc_some _ (HC.out j u hj)
    case qc4 => unfold maxLen; omega
    case qc5 => omega
    case qc6 => simp
    intro v' w1 hown hgrow hnil
    go_wp2_with fail
    go_ret
    refine ⟨v', rfl, by simpa using hown, ?_⟩
    exact ((Off.refl _ w).alloc _).grown hgrow (by intro k hk; simp [Value.ownBlock] at hk; omega)
set_option maxRecDepth 100000 in
set_option maxHeartbeats 4000000 in
theorem dtrace_call (p n : Nat) (G : Geo) (D : PDisk) (w : World) (h : DS w p G D n) (hn : n ≤ 1000000) : Calls Tryz.prog 34 #[.pointer (some ⟨p, 0, none⟩)] w fun e w' => ∃ v, e = .returned v ∧ w'.ownsRow w.heap.size 73 3 v D.trace.length (didCells D.trace) ∧ Off [] w w' := by
  have HCL := Lib.hid (tclone_any G.tv D.trace w h.m.parts.trace (by have := h.ok.tlen; omega))
  have hc0 := h.m.blk.cell
  unfold diskCells at hc0
  clear h
  go_enter Tryz.func34, Tryz.ntmps34
  go_wp2_with fail
  refine HCL.out.mono ?_
  rintro e w1 ⟨v, rfl, hown, ho⟩
  go_wp2_with fail
  go_ret
  exact ⟨v, rfl, hown, ho⟩
theorem run_trace {w0 w : World} {p n : Nat} {D : PDisk} (h : Run w0 w p D n) (hn : n ≤ 1000000) : Calls Tryz.prog 34 #[.pointer (some ⟨p, 0, none⟩)] w fun e w' => ∃ a c, e = .returned (.slice a D.trace.length c) ∧ Run w0 w' p D n ∧ Off [] w w' := by
  have h' := h
  obtain ⟨G, h1, h2, h3, h4⟩ := h
  refine (dtrace_call p n G D w h1 hn).mono fun e w' ⟨v, he, hr, ho⟩ => ?_
  rcases hr.2 with ⟨rfl, h0⟩ | ⟨g, cap, cur, rfl, _⟩
  · exact ⟨none, 0, by rw [he, h0], h'.off ho, ho⟩
  · exact ⟨_, _, he, h'.off ho, ho⟩
/-- where there is no tree, there is no disk -/
theorem dnew_bad (fp : Option Addr) (t : List Node) (n c : Nat) (w : World) (hR : Row w fp t) (hn : t.length = n) (hc : n ≤ c) (hcm : n ≤ maxLen) (hok : okTree t = false) (hF : Fits t) (hT : Tabs w) :
    Calls Tryz.prog 14 #[.slice fp n c] w fun e w' => e = .returned (.tuple #[.pointer none, .int .i64 60]) ∧ Off [] w w' := by
  have HCK := Lib.hid (check_any fp t n c w hR hn hc hcm hF hT)
  have hck : chkV t = 60 := by unfold chkV; rw [hok]; rfl
  rw [hck] at HCK
  clear hR hn hok hF hT hck
  go_enter Tryz.func14, Tryz.ntmps14
  go_wp2_with fail
  refine HCK.out.mono ?_
  rintro e w1 ⟨rfl, ho1⟩
  go_wp2_with fail
  refine bodyPost_ret (v := .tuple #[.pointer none, .int .i64 60]) ?_ rfl ⟨rfl, ho1⟩
  have hres : Tryz.f14.results = #[.tmp 2, .tmp 3] := rfl
  simp only [results, hres]
  go_simp

/-! ### the law -/
theorem nmOf_pair : ∀ (t : List Node) (i : Nat), Sorted t → (nmOf t i).Pairwise fun x y => order (str x.1) (str y.1) < 0
  | [], _, _ => List.Pairwise.nil
  | n :: t, i, h => by
    unfold nmOf
    obtain ⟨h1, h2⟩ := List.pairwise_cons.1 h
    refine List.pairwise_cons.2 ⟨fun x hx => ?_, nmOf_pair t (i + 1) h2⟩
    have hh : hasN (nmOf t (i + 1)) x.1 = true := by
      have : ∀ l : NameL, x ∈ l → hasN l x.1 = true := fun l => by
        induction l with
        | nil => intro h; cases h
        | cons y l ih =>
          intro h
          rcases List.mem_cons.1 h with rfl | h
          · simp [hasN]
          · simp [hasN, ih h]
      exact this _ hx
    obtain ⟨m, hm, e⟩ := (nmOf_has _ _ _).1 hh
    rw [← e]
    exact h1 m hm
theorem sortN_new {t : List Node} (hs : Sorted t) : PDisk.sortN (nmOf t 0) = nmOf t 0 := by
  unfold PDisk.sortN
  refine List.mergeSort_of_pairwise ((nmOf_pair t 0 hs).imp fun {x y} h => ?_)
  have := order_swap (str x.1) (str y.1)
  have h2 : ¬ order (str y.1) (str x.1) < 0 := by omega
  rw [decide_eq_false h2]
  rfl
theorem nmOf_tree (I : List Ino) : ∀ (t : List Node) (i : Nat), (∀ (j : Nat) (n : Node), t[j]? = some n → (I[i + j]?).map (·.node) = some n) → (nmOf t i).filterMap (fun x => ((if x.2 = 0 then none else I[x.2 - 1]?) : Option Ino).map fun n => ({ n.node with path := x.1 } : Node)) = t
  | [], _, _ => rfl
  | n :: t, i, h => by
    unfold nmOf
    have h0 := h 0 n rfl
    rw [Nat.add_zero] at h0
    obtain ⟨m, hm, he⟩ := Option.map_eq_some_iff.1 h0
    rw [List.filterMap_cons]
    simp only [Nat.add_sub_cancel, Nat.succ_ne_zero, if_false, hm, Option.map_some, he]
    rw [nmOf_tree I t (i + 1) (fun j k hj => by rw [show i + 1 + j = i + (j + 1) by omega]; exact h (j + 1) k hj)]
/-- a disk with these names and these nodes -/
theorem tree_new {D : PDisk} {t : List Node} (hs : Sorted t) (hn : D.names = nmOf t 0) (hi : D.inos.map (·.node) = t) : D.tree = t := by
  unfold PDisk.tree
  rw [hn, sortN_new hs]
  refine nmOf_tree D.inos t 0 (fun j n hj => ?_)
  rw [Nat.zero_add, ← List.getElem?_map, hi]
  exact hj
/-- the disk at which the first step of a new one crashed -/
def offD (t : List Node) (f : FateP) : PDisk := ((newD t).boot [f]).flush.2
theorem offD_flush {t : List Node} {f : FateP} (ha : f.at_ = 0) (hw : f.what = 3) : ((newD t).boot [f]).flush = (75, (((newD t).boot [f]).tick ⟨#[70, 108, 117, 115, 104]⟩ ⟨#[]⟩ ⟨#[]⟩).crash f) := by
  unfold PDisk.flush
  rw [call_err (step_crash _ _ _ f rfl rfl (by rw [ha]; rfl) hw) n75]
  rfl
theorem offD_eq {t : List Node} {f : FateP} (ha : f.at_ = 0) (hw : f.what = 3) : (offD t f).off = true ∧ (offD t f).trace.length = 1 ∧ (offD t f).names = nmOf t 0 ∧ (offD t f).inos.map (·.node) = t := by
  unfold offD
  rw [offD_flush ha hw]
  refine ⟨rfl, rfl, ?_, ?_⟩
  · rcases crash_names (((newD t).boot [f]).tick ⟨#[70, 108, 117, 115, 104]⟩ ⟨#[]⟩ ⟨#[]⟩) f with h | h
    · exact h
    · cases h
  · show ((t.map fun n => (⟨n, 0, false⟩ : Ino)).map (PDisk.tear f.torn)).map (·.node) = t
    rw [List.map_map, List.map_map]
    conv => rhs; rw [← List.map_id t]
    exact List.map_congr_left fun n _ => rfl
end Go.Proofs.YtgcfkljooabjjaaGreatDoor

/- hawserlaw07.ask: what it leaves of a disk (not what it answers). Conditions: what each contract states. -/
namespace Go.Proofs.YtgcfkljooabjjaaGreatDoor
open Go.RowKit Go.Op Go.Maps

/-- what ask answers, and what it leaves of a disk -/
structure AskA where
  err : Int
  node : Node
  ino : Int
  size : Int
  time : Int
  names : List ByteArray
def zeroA (e : Int) : AskA := ⟨e, ⟨⟨#[]⟩, 0, ⟨#[]⟩, 0⟩, 0, 0, 0, []⟩
def askE (D : PDisk) (c : CallP) : AskA × PDisk :=
  if c.what = 0 then (zeroA (D.edited.write c.path c.data c.mode).1, (D.edited.write c.path c.data c.mode).2) else if c.what = 1 then (zeroA (D.edited.mkdir c.path).1, (D.edited.mkdir c.path).2) else if c.what = 2 then (zeroA (D.edited.link c.path c.to_).1, (D.edited.link c.path c.to_).2) else if c.what = 3 then (zeroA (D.edited.remove c.path).1, (D.edited.remove c.path).2)
  else if c.what = 4 then (zeroA (D.edited.move c.path c.to_).1, (D.edited.move c.path c.to_).2) else if c.what = 5 then (zeroA (D.edited.replace c.path c.to_).1, (D.edited.replace c.path c.to_).2) else if c.what = 6 then (zeroA (D.edited.sync c.path).1, (D.edited.sync c.path).2) else if c.what = 7 then (zeroA D.edited.flush.1, D.edited.flush.2)
  else if c.what = 8 then (⟨(D.edited.get c.path).1.1, (D.edited.get c.path).1.2.1, (D.edited.get c.path).1.2.2.1, (D.edited.get c.path).1.2.2.2.1, (D.edited.get c.path).1.2.2.2.2, []⟩, (D.edited.get c.path).2) else if c.what = 9 then (⟨(D.edited.namesC c.path).1.2, ⟨⟨#[]⟩, 0, ⟨#[]⟩, 0⟩, 0, 0, 0, (D.edited.namesC c.path).1.1⟩, (D.edited.namesC c.path).2) else if c.what = 10 then (zeroA 0, D.boot []) else (zeroA 0, D)
/-- what ask hands back -/
def AskP (base : Nat) (a : AskA) (e : Ending) (w' : World) : Prop :=
  ∃ v, e = .returned (.tuple #[.int .i64 a.err, .agg #[.string a.node.path, .int .i64 a.node.kind, .string a.node.data, .int .i64 a.node.mode], .agg #[.int .i64 a.ino, .int .i64 a.size, .int .i64 a.time], v]) ∧ w'.ownsRow base 9 1 v a.names.length (a.names.map Value.string)
set_option maxRecDepth 100000 in
set_option maxHeartbeats 16000000 in
theorem ask_e (p n : Nat) (G : Geo) (D : PDisk) (c : CallP) (w : World) (h : DSE w p G D n) (hE : EditsOk D n) (hn : n ≤ 900000) (hF : Light D.edited) (hs1 : c.path.size ≤ 9223372036854775807) (hs2 : c.to_.size ≤ 9223372036854775807)
    (hfr : ∀ E, (D.edited.step ⟨#[77, 111, 118, 101]⟩ c.path c.to_).2.2 = E → firstE (E.mvE c.path c.to_) = 0 → Free c.path c.to_ E.names) :
    Calls Tryz.prog 35 #[.pointer (some ⟨p, 0, none⟩), callV c] w fun e w' => AskP w.heap.size (askE D c).1 e w' ∧ DSETo w p G.parts w' (askE D c).2 (n + 2) := by
  obtain ⟨what, path, q, data, mode⟩ := c
  have H := Lib.hid h
  have HE0 := Lib.hid hE
  have HN := Lib.hid hn
  have HFF := Lib.hid hF
  have HS := Lib.hid (And.intro (show path.size ≤ 9223372036854775807 from hs1) (show q.size ≤ 9223372036854775807 from hs2))
  have HFR := Lib.hid (show ∀ E, (D.edited.step ⟨#[77, 111, 118, 101]⟩ path q).2.2 = E → firstE (E.mvE path q) = 0 → Free path q E.names from hfr)
  have HG := Lib.hid (show askE D ⟨what, path, q, data, mode⟩ = if what = 0 then (zeroA (D.edited.write path data mode).1, (D.edited.write path data mode).2) else if what = 1 then (zeroA (D.edited.mkdir path).1, (D.edited.mkdir path).2) else if what = 2 then (zeroA (D.edited.link path q).1, (D.edited.link path q).2) else if what = 3 then (zeroA (D.edited.remove path).1, (D.edited.remove path).2)
    else if what = 4 then (zeroA (D.edited.move path q).1, (D.edited.move path q).2) else if what = 5 then (zeroA (D.edited.replace path q).1, (D.edited.replace path q).2) else if what = 6 then (zeroA (D.edited.sync path).1, (D.edited.sync path).2) else if what = 7 then (zeroA D.edited.flush.1, D.edited.flush.2)
    else if what = 8 then (⟨(D.edited.get path).1.1, (D.edited.get path).1.2.1, (D.edited.get path).1.2.2.1, (D.edited.get path).1.2.2.2.1, (D.edited.get path).1.2.2.2.2, []⟩, (D.edited.get path).2) else if what = 9 then (⟨(D.edited.namesC path).1.2, ⟨⟨#[]⟩, 0, ⟨#[]⟩, 0⟩, 0, 0, 0, (D.edited.namesC path).1.1⟩, (D.edited.namesC path).2) else if what = 10 then (zeroA 0, D.boot []) else (zeroA 0, D) from rfl)
  show Calls Tryz.prog 35 #[.pointer (some ⟨p, 0, none⟩), .agg #[.int .i64 what, .string path, .string q, .string data, .int .i64 mode]] w fun e w' => AskP w.heap.size (askE D ⟨what, path, q, data, mode⟩).1 e w' ∧ DSETo w p G.parts w' (askE D ⟨what, path, q, data, mode⟩).2 (n + 2)
  clear h hE hn hF hs1 hs2 hfr
  go_enter Tryz.func35, Tryz.ntmps35
  go_upto_region 5 with fail
  refine code_gen (fun W => Blk W w.heap.size 77 #[.int .i64 what, .string path, .string q, .string data, .int .i64 mode] ∧ Blk W (w.heap.size + 1) 30 #[.string ⟨#[]⟩, .int .i64 0, .string ⟨#[]⟩, .int .i64 0] ∧ Blk W (w.heap.size + 2) 39 #[.int .i64 0, .int .i64 0, .int .i64 0] ∧ Blk W (w.heap.size + 3) 30 #[.string ⟨#[]⟩, .int .i64 0, .string ⟨#[]⟩, .int .i64 0] ∧ Blk W (w.heap.size + 4) 39 #[.int .i64 0, .int .i64 0, .int .i64 0] ∧ Off [] w W ∧ w.heap.size + 4 < W.heap.size)
    ⟨((((Blk.new w _ _).alloc _).alloc _).alloc _).alloc _, (((Blk.new1 w _ _ _).alloc _).alloc _).alloc _, ((Blk.new2 w _ _ _ _).alloc _).alloc _, (Blk.new3' w _ _ _ _ _).alloc _, Blk.new4' w _ _ _ _ _ _, (((((Off.refl _ _).alloc _).alloc _).alloc _).alloc _).alloc _, by simp⟩ ?_
  rintro W ⟨hb0, hb1, hb2, hb3, hb4, hof, hsz⟩
  have HB1 := Lib.hid hb1
  have HB2 := Lib.hid hb2
  have HB3 := Lib.hid hb3
  have HB4 := Lib.hid hb4
  have HOF := Lib.hid hof
  have HSZ := Lib.hid hsz
  have hc0 := hb0.cell
  have HDS := Lib.hid (H.out.off hof)
  have HNO := Lib.hid (show ∀ b, w.heap.size ≤ b → b < W.heap.size → b ∉ p :: G.parts from fun b hb _ hm => by
    rcases List.mem_cons.1 hm with rfl | hm
    · have := H.out.m.blk.lt; omega
    · have := H.out.m.parts.lt hm; omega)
  have HKK := Lib.hid (show ∀ b ∈ [w.heap.size + 1, w.heap.size + 2, w.heap.size + 3, w.heap.size + 4], w.heap.size ≤ b ∧ b < W.heap.size from fun b hb => by
    have := HSZ.out
    simp at hb
    omega)
  clear hb0 hb1 hb2 hb3 hb4 hof hsz
  by_cases hk0 : what = 0
  · subst hk0
    have HE := Lib.hid (show askE D ⟨0, path, q, data, mode⟩ = (zeroA (D.edited.write path data mode).1, (D.edited.write path data mode).2) from rfl)
    have hop := Lib.hid (dwrite_callE p n G D path data mode W HDS.out HE0.out (by have := HN.out; omega) HS.out.1)
    clear HG
    obtain ⟨er, her⟩ : ∃ er, (D.edited.write path data mode).1 = er := ⟨_, rfl⟩
    rw [her] at hop HE
    clear her
    go_wp2_with fail
    refine hop.out.mono ?_
    rintro e w1 ⟨rfl, hT⟩
    have HT := Lib.hid hT
    clear hT hop
    obtain ⟨G1, h1, ho1, hp1⟩ := HT.out
    have hb1 := HB1.out.off ho1 (HNO.out _ (by omega) (by have := HSZ.out; omega))
    have hb2 := HB2.out.off ho1 (HNO.out _ (by omega) (by have := HSZ.out; omega))
    have hb3 := HB3.out.off ho1 (HNO.out _ (by omega) (by have := HSZ.out; omega))
    have hb4 := HB4.out.off ho1 (HNO.out _ (by omega) (by have := HSZ.out; omega))
    clear h1 ho1 hp1
    go_upto_region 28 with fail
    refine code_gen (fun W2 => Blk W2 (w.heap.size + 1) 30 #[.string ⟨#[]⟩, .int .i64 0, .string ⟨#[]⟩, .int .i64 0] ∧ Blk W2 (w.heap.size + 2) 39 #[.int .i64 0, .int .i64 0, .int .i64 0] ∧ Blk W2 (w.heap.size + 3) 30 #[.string ⟨#[]⟩, .int .i64 0, .string ⟨#[]⟩, .int .i64 0] ∧ Blk W2 (w.heap.size + 4) 39 #[.int .i64 0, .int .i64 0, .int .i64 0] ∧ Off [w.heap.size + 3, w.heap.size + 4] w1 W2) ⟨hb1, hb2, hb3, hb4, Off.refl _ _⟩ ?_
    clear hb1 hb2 hb3 hb4
    rintro W2 ⟨hb1, hb2, hb3, hb4, ho2⟩
    have hc1 := hb1.cell
    have hf1 := hb1.frozen
    have hl1 := hb1.lt
    have HC1 := Lib.hid hb1
    have hc2 := hb2.cell
    have hf2 := hb2.frozen
    have hl2 := hb2.lt
    have HC2 := Lib.hid hb2
    have hc3 := hb3.cell
    have hc4 := hb4.cell
    have HO2 := Lib.hid ho2
    clear hb1 hb2 hb3 hb4 ho2
    go_region
    obtain ⟨k1, k2, k3⟩ := put7 (a := .string ⟨#[]⟩) (b := .int .i64 0) (c := .string ⟨#[]⟩) (d := .int .i64 0) (x := .int .i64 0) (y := .int .i64 0) (z := .int .i64 0) HC1.out HC2.out
    have he1 := k1.drew.cell
    have he2 := k2.drew.cell
    have K3 := Lib.hid k3.drew
    clear k1 k2 k3 hc1 hf1 hl1 hc2 hf2 hl2 hc3 hc4
    go_wp2_with fail
    refine bodyPost_ret (v := .tuple #[.int .i64 er, .agg #[.string ⟨#[]⟩, .int .i64 0, .string ⟨#[]⟩, .int .i64 0], .agg #[.int .i64 0, .int .i64 0, .int .i64 0], .slice none 0 0]) ?_ rfl ?_
    · have hres : Tryz.f35.results = #[.tmp 4, .cell 5 30, .cell 6 39, .tmp 7] := rfl
      simp only [results, hres]
      go_simp
    · rw [HE.out]
      exact ⟨⟨_, rfl, ⟨rfl, .inl ⟨rfl, rfl⟩⟩⟩, (DSETo.own H.out HOF.out HT.out ((HO2.out.mono (fun _ _ h => by simp at h ⊢; omega)).trans (K3.out.mono (fun _ _ h => by simp at h ⊢; omega)) (fun _ _ h => h)) HKK.out).le (by omega)⟩
  by_cases hk1 : what = 1
  · subst hk1
    have HE := Lib.hid (show askE D ⟨1, path, q, data, mode⟩ = (zeroA (D.edited.mkdir path).1, (D.edited.mkdir path).2) from rfl)
    have hop := Lib.hid (dmkdir_callE p n G D path W HDS.out HE0.out (by have := HN.out; omega) HS.out.1)
    clear HG
    obtain ⟨er, her⟩ : ∃ er, (D.edited.mkdir path).1 = er := ⟨_, rfl⟩
    rw [her] at hop HE
    clear her
    go_wp2_with fail
    refine hop.out.mono ?_
    rintro e w1 ⟨rfl, hT⟩
    have HT := Lib.hid hT
    clear hT hop
    obtain ⟨G1, h1, ho1, hp1⟩ := HT.out
    have hb1 := HB1.out.off ho1 (HNO.out _ (by omega) (by have := HSZ.out; omega))
    have hb2 := HB2.out.off ho1 (HNO.out _ (by omega) (by have := HSZ.out; omega))
    have hb3 := HB3.out.off ho1 (HNO.out _ (by omega) (by have := HSZ.out; omega))
    have hb4 := HB4.out.off ho1 (HNO.out _ (by omega) (by have := HSZ.out; omega))
    clear h1 ho1 hp1
    go_upto_region 28 with fail
    refine code_gen (fun W2 => Blk W2 (w.heap.size + 1) 30 #[.string ⟨#[]⟩, .int .i64 0, .string ⟨#[]⟩, .int .i64 0] ∧ Blk W2 (w.heap.size + 2) 39 #[.int .i64 0, .int .i64 0, .int .i64 0] ∧ Blk W2 (w.heap.size + 3) 30 #[.string ⟨#[]⟩, .int .i64 0, .string ⟨#[]⟩, .int .i64 0] ∧ Blk W2 (w.heap.size + 4) 39 #[.int .i64 0, .int .i64 0, .int .i64 0] ∧ Off [w.heap.size + 3, w.heap.size + 4] w1 W2) ⟨hb1, hb2, hb3, hb4, Off.refl _ _⟩ ?_
    clear hb1 hb2 hb3 hb4
    rintro W2 ⟨hb1, hb2, hb3, hb4, ho2⟩
    have hc1 := hb1.cell
    have hf1 := hb1.frozen
    have hl1 := hb1.lt
    have HC1 := Lib.hid hb1
    have hc2 := hb2.cell
    have hf2 := hb2.frozen
    have hl2 := hb2.lt
    have HC2 := Lib.hid hb2
    have hc3 := hb3.cell
    have hc4 := hb4.cell
    have HO2 := Lib.hid ho2
    clear hb1 hb2 hb3 hb4 ho2
    go_region
    obtain ⟨k1, k2, k3⟩ := put7 (a := .string ⟨#[]⟩) (b := .int .i64 0) (c := .string ⟨#[]⟩) (d := .int .i64 0) (x := .int .i64 0) (y := .int .i64 0) (z := .int .i64 0) HC1.out HC2.out
    have he1 := k1.drew.cell
    have he2 := k2.drew.cell
    have K3 := Lib.hid k3.drew
    clear k1 k2 k3 hc1 hf1 hl1 hc2 hf2 hl2 hc3 hc4
    go_wp2_with fail
    refine bodyPost_ret (v := .tuple #[.int .i64 er, .agg #[.string ⟨#[]⟩, .int .i64 0, .string ⟨#[]⟩, .int .i64 0], .agg #[.int .i64 0, .int .i64 0, .int .i64 0], .slice none 0 0]) ?_ rfl ?_
    · have hres : Tryz.f35.results = #[.tmp 4, .cell 5 30, .cell 6 39, .tmp 7] := rfl
      simp only [results, hres]
      go_simp
    · rw [HE.out]
      exact ⟨⟨_, rfl, ⟨rfl, .inl ⟨rfl, rfl⟩⟩⟩, (DSETo.own H.out HOF.out HT.out ((HO2.out.mono (fun _ _ h => by simp at h ⊢; omega)).trans (K3.out.mono (fun _ _ h => by simp at h ⊢; omega)) (fun _ _ h => h)) HKK.out).le (by omega)⟩
  by_cases hk2 : what = 2
  · subst hk2
    have HE := Lib.hid (show askE D ⟨2, path, q, data, mode⟩ = (zeroA (D.edited.link path q).1, (D.edited.link path q).2) from rfl)
    have hop := Lib.hid (dlink_callE p n G D path q W HDS.out HE0.out (by have := HN.out; omega) HS.out.1)
    clear HG
    obtain ⟨er, her⟩ : ∃ er, (D.edited.link path q).1 = er := ⟨_, rfl⟩
    rw [her] at hop HE
    clear her
    go_wp2_with fail
    refine hop.out.mono ?_
    rintro e w1 ⟨rfl, hT⟩
    have HT := Lib.hid hT
    clear hT hop
    obtain ⟨G1, h1, ho1, hp1⟩ := HT.out
    have hb1 := HB1.out.off ho1 (HNO.out _ (by omega) (by have := HSZ.out; omega))
    have hb2 := HB2.out.off ho1 (HNO.out _ (by omega) (by have := HSZ.out; omega))
    have hb3 := HB3.out.off ho1 (HNO.out _ (by omega) (by have := HSZ.out; omega))
    have hb4 := HB4.out.off ho1 (HNO.out _ (by omega) (by have := HSZ.out; omega))
    clear h1 ho1 hp1
    go_upto_region 28 with fail
    refine code_gen (fun W2 => Blk W2 (w.heap.size + 1) 30 #[.string ⟨#[]⟩, .int .i64 0, .string ⟨#[]⟩, .int .i64 0] ∧ Blk W2 (w.heap.size + 2) 39 #[.int .i64 0, .int .i64 0, .int .i64 0] ∧ Blk W2 (w.heap.size + 3) 30 #[.string ⟨#[]⟩, .int .i64 0, .string ⟨#[]⟩, .int .i64 0] ∧ Blk W2 (w.heap.size + 4) 39 #[.int .i64 0, .int .i64 0, .int .i64 0] ∧ Off [w.heap.size + 3, w.heap.size + 4] w1 W2) ⟨hb1, hb2, hb3, hb4, Off.refl _ _⟩ ?_
    clear hb1 hb2 hb3 hb4
    rintro W2 ⟨hb1, hb2, hb3, hb4, ho2⟩
    have hc1 := hb1.cell
    have hf1 := hb1.frozen
    have hl1 := hb1.lt
    have HC1 := Lib.hid hb1
    have hc2 := hb2.cell
    have hf2 := hb2.frozen
    have hl2 := hb2.lt
    have HC2 := Lib.hid hb2
    have hc3 := hb3.cell
    have hc4 := hb4.cell
    have HO2 := Lib.hid ho2
    clear hb1 hb2 hb3 hb4 ho2
    go_region
    obtain ⟨k1, k2, k3⟩ := put7 (a := .string ⟨#[]⟩) (b := .int .i64 0) (c := .string ⟨#[]⟩) (d := .int .i64 0) (x := .int .i64 0) (y := .int .i64 0) (z := .int .i64 0) HC1.out HC2.out
    have he1 := k1.drew.cell
    have he2 := k2.drew.cell
    have K3 := Lib.hid k3.drew
    clear k1 k2 k3 hc1 hf1 hl1 hc2 hf2 hl2 hc3 hc4
    go_wp2_with fail
    refine bodyPost_ret (v := .tuple #[.int .i64 er, .agg #[.string ⟨#[]⟩, .int .i64 0, .string ⟨#[]⟩, .int .i64 0], .agg #[.int .i64 0, .int .i64 0, .int .i64 0], .slice none 0 0]) ?_ rfl ?_
    · have hres : Tryz.f35.results = #[.tmp 4, .cell 5 30, .cell 6 39, .tmp 7] := rfl
      simp only [results, hres]
      go_simp
    · rw [HE.out]
      exact ⟨⟨_, rfl, ⟨rfl, .inl ⟨rfl, rfl⟩⟩⟩, (DSETo.own H.out HOF.out HT.out ((HO2.out.mono (fun _ _ h => by simp at h ⊢; omega)).trans (K3.out.mono (fun _ _ h => by simp at h ⊢; omega)) (fun _ _ h => h)) HKK.out).le (by omega)⟩
  by_cases hk3 : what = 3
  · subst hk3
    have HE := Lib.hid (show askE D ⟨3, path, q, data, mode⟩ = (zeroA (D.edited.remove path).1, (D.edited.remove path).2) from rfl)
    have hop := Lib.hid (dremove_callE p n G D path W HDS.out HE0.out (by have := HN.out; omega) HS.out.1)
    clear HG
    obtain ⟨er, her⟩ : ∃ er, (D.edited.remove path).1 = er := ⟨_, rfl⟩
    rw [her] at hop HE
    clear her
    go_wp2_with fail
    refine hop.out.mono ?_
    rintro e w1 ⟨rfl, hT⟩
    have HT := Lib.hid hT
    clear hT hop
    obtain ⟨G1, h1, ho1, hp1⟩ := HT.out
    have hb1 := HB1.out.off ho1 (HNO.out _ (by omega) (by have := HSZ.out; omega))
    have hb2 := HB2.out.off ho1 (HNO.out _ (by omega) (by have := HSZ.out; omega))
    have hb3 := HB3.out.off ho1 (HNO.out _ (by omega) (by have := HSZ.out; omega))
    have hb4 := HB4.out.off ho1 (HNO.out _ (by omega) (by have := HSZ.out; omega))
    clear h1 ho1 hp1
    go_upto_region 28 with fail
    refine code_gen (fun W2 => Blk W2 (w.heap.size + 1) 30 #[.string ⟨#[]⟩, .int .i64 0, .string ⟨#[]⟩, .int .i64 0] ∧ Blk W2 (w.heap.size + 2) 39 #[.int .i64 0, .int .i64 0, .int .i64 0] ∧ Blk W2 (w.heap.size + 3) 30 #[.string ⟨#[]⟩, .int .i64 0, .string ⟨#[]⟩, .int .i64 0] ∧ Blk W2 (w.heap.size + 4) 39 #[.int .i64 0, .int .i64 0, .int .i64 0] ∧ Off [w.heap.size + 3, w.heap.size + 4] w1 W2) ⟨hb1, hb2, hb3, hb4, Off.refl _ _⟩ ?_
    clear hb1 hb2 hb3 hb4
    rintro W2 ⟨hb1, hb2, hb3, hb4, ho2⟩
    have hc1 := hb1.cell
    have hf1 := hb1.frozen
    have hl1 := hb1.lt
    have HC1 := Lib.hid hb1
    have hc2 := hb2.cell
    have hf2 := hb2.frozen
    have hl2 := hb2.lt
    have HC2 := Lib.hid hb2
    have hc3 := hb3.cell
    have hc4 := hb4.cell
    have HO2 := Lib.hid ho2
    clear hb1 hb2 hb3 hb4 ho2
    go_region
    obtain ⟨k1, k2, k3⟩ := put7 (a := .string ⟨#[]⟩) (b := .int .i64 0) (c := .string ⟨#[]⟩) (d := .int .i64 0) (x := .int .i64 0) (y := .int .i64 0) (z := .int .i64 0) HC1.out HC2.out
    have he1 := k1.drew.cell
    have he2 := k2.drew.cell
    have K3 := Lib.hid k3.drew
    clear k1 k2 k3 hc1 hf1 hl1 hc2 hf2 hl2 hc3 hc4
    go_wp2_with fail
    refine bodyPost_ret (v := .tuple #[.int .i64 er, .agg #[.string ⟨#[]⟩, .int .i64 0, .string ⟨#[]⟩, .int .i64 0], .agg #[.int .i64 0, .int .i64 0, .int .i64 0], .slice none 0 0]) ?_ rfl ?_
    · have hres : Tryz.f35.results = #[.tmp 4, .cell 5 30, .cell 6 39, .tmp 7] := rfl
      simp only [results, hres]
      go_simp
    · rw [HE.out]
      exact ⟨⟨_, rfl, ⟨rfl, .inl ⟨rfl, rfl⟩⟩⟩, (DSETo.own H.out HOF.out HT.out ((HO2.out.mono (fun _ _ h => by simp at h ⊢; omega)).trans (K3.out.mono (fun _ _ h => by simp at h ⊢; omega)) (fun _ _ h => h)) HKK.out).le (by omega)⟩
  by_cases hk4 : what = 4
  · subst hk4
    have HE := Lib.hid (show askE D ⟨4, path, q, data, mode⟩ = (zeroA (D.edited.move path q).1, (D.edited.move path q).2) from rfl)
    have hop := Lib.hid (dmove_callE p n G D path q W HDS.out HE0.out (by have := HN.out; omega) HS.out.1 HS.out.2 HFR.out)
    clear HG
    obtain ⟨er, her⟩ : ∃ er, (D.edited.move path q).1 = er := ⟨_, rfl⟩
    rw [her] at hop HE
    clear her
    go_wp2_with fail
    refine hop.out.mono ?_
    rintro e w1 ⟨rfl, hT⟩
    have HT := Lib.hid hT
    clear hT hop
    obtain ⟨G1, h1, ho1, hp1⟩ := HT.out
    have hb1 := HB1.out.off ho1 (HNO.out _ (by omega) (by have := HSZ.out; omega))
    have hb2 := HB2.out.off ho1 (HNO.out _ (by omega) (by have := HSZ.out; omega))
    have hb3 := HB3.out.off ho1 (HNO.out _ (by omega) (by have := HSZ.out; omega))
    have hb4 := HB4.out.off ho1 (HNO.out _ (by omega) (by have := HSZ.out; omega))
    clear h1 ho1 hp1
    go_upto_region 28 with fail
    refine code_gen (fun W2 => Blk W2 (w.heap.size + 1) 30 #[.string ⟨#[]⟩, .int .i64 0, .string ⟨#[]⟩, .int .i64 0] ∧ Blk W2 (w.heap.size + 2) 39 #[.int .i64 0, .int .i64 0, .int .i64 0] ∧ Blk W2 (w.heap.size + 3) 30 #[.string ⟨#[]⟩, .int .i64 0, .string ⟨#[]⟩, .int .i64 0] ∧ Blk W2 (w.heap.size + 4) 39 #[.int .i64 0, .int .i64 0, .int .i64 0] ∧ Off [w.heap.size + 3, w.heap.size + 4] w1 W2) ⟨hb1, hb2, hb3, hb4, Off.refl _ _⟩ ?_
    clear hb1 hb2 hb3 hb4
    rintro W2 ⟨hb1, hb2, hb3, hb4, ho2⟩
    have hc1 := hb1.cell
    have hf1 := hb1.frozen
    have hl1 := hb1.lt
    have HC1 := Lib.hid hb1
    have hc2 := hb2.cell
    have hf2 := hb2.frozen
    have hl2 := hb2.lt
    have HC2 := Lib.hid hb2
    have hc3 := hb3.cell
    have hc4 := hb4.cell
    have HO2 := Lib.hid ho2
    clear hb1 hb2 hb3 hb4 ho2
    go_region
    obtain ⟨k1, k2, k3⟩ := put7 (a := .string ⟨#[]⟩) (b := .int .i64 0) (c := .string ⟨#[]⟩) (d := .int .i64 0) (x := .int .i64 0) (y := .int .i64 0) (z := .int .i64 0) HC1.out HC2.out
    have he1 := k1.drew.cell
    have he2 := k2.drew.cell
    have K3 := Lib.hid k3.drew
    clear k1 k2 k3 hc1 hf1 hl1 hc2 hf2 hl2 hc3 hc4
    go_wp2_with fail
    refine bodyPost_ret (v := .tuple #[.int .i64 er, .agg #[.string ⟨#[]⟩, .int .i64 0, .string ⟨#[]⟩, .int .i64 0], .agg #[.int .i64 0, .int .i64 0, .int .i64 0], .slice none 0 0]) ?_ rfl ?_
    · have hres : Tryz.f35.results = #[.tmp 4, .cell 5 30, .cell 6 39, .tmp 7] := rfl
      simp only [results, hres]
      go_simp
    · rw [HE.out]
      exact ⟨⟨_, rfl, ⟨rfl, .inl ⟨rfl, rfl⟩⟩⟩, (DSETo.own H.out HOF.out HT.out ((HO2.out.mono (fun _ _ h => by simp at h ⊢; omega)).trans (K3.out.mono (fun _ _ h => by simp at h ⊢; omega)) (fun _ _ h => h)) HKK.out).le (by omega)⟩
  by_cases hk5 : what = 5
  · subst hk5
    have HE := Lib.hid (show askE D ⟨5, path, q, data, mode⟩ = (zeroA (D.edited.replace path q).1, (D.edited.replace path q).2) from rfl)
    have hop := Lib.hid (dreplace_callE p n G D path q W HDS.out HE0.out (by have := HN.out; omega) HS.out.1 HS.out.2)
    clear HG
    obtain ⟨er, her⟩ : ∃ er, (D.edited.replace path q).1 = er := ⟨_, rfl⟩
    rw [her] at hop HE
    clear her
    go_wp2_with fail
    refine hop.out.mono ?_
    rintro e w1 ⟨rfl, hT⟩
    have HT := Lib.hid hT
    clear hT hop
    obtain ⟨G1, h1, ho1, hp1⟩ := HT.out
    have hb1 := HB1.out.off ho1 (HNO.out _ (by omega) (by have := HSZ.out; omega))
    have hb2 := HB2.out.off ho1 (HNO.out _ (by omega) (by have := HSZ.out; omega))
    have hb3 := HB3.out.off ho1 (HNO.out _ (by omega) (by have := HSZ.out; omega))
    have hb4 := HB4.out.off ho1 (HNO.out _ (by omega) (by have := HSZ.out; omega))
    clear h1 ho1 hp1
    go_upto_region 28 with fail
    refine code_gen (fun W2 => Blk W2 (w.heap.size + 1) 30 #[.string ⟨#[]⟩, .int .i64 0, .string ⟨#[]⟩, .int .i64 0] ∧ Blk W2 (w.heap.size + 2) 39 #[.int .i64 0, .int .i64 0, .int .i64 0] ∧ Blk W2 (w.heap.size + 3) 30 #[.string ⟨#[]⟩, .int .i64 0, .string ⟨#[]⟩, .int .i64 0] ∧ Blk W2 (w.heap.size + 4) 39 #[.int .i64 0, .int .i64 0, .int .i64 0] ∧ Off [w.heap.size + 3, w.heap.size + 4] w1 W2) ⟨hb1, hb2, hb3, hb4, Off.refl _ _⟩ ?_
    clear hb1 hb2 hb3 hb4
    rintro W2 ⟨hb1, hb2, hb3, hb4, ho2⟩
    have hc1 := hb1.cell
    have hf1 := hb1.frozen
    have hl1 := hb1.lt
    have HC1 := Lib.hid hb1
    have hc2 := hb2.cell
    have hf2 := hb2.frozen
    have hl2 := hb2.lt
    have HC2 := Lib.hid hb2
    have hc3 := hb3.cell
    have hc4 := hb4.cell
    have HO2 := Lib.hid ho2
    clear hb1 hb2 hb3 hb4 ho2
    go_region
    obtain ⟨k1, k2, k3⟩ := put7 (a := .string ⟨#[]⟩) (b := .int .i64 0) (c := .string ⟨#[]⟩) (d := .int .i64 0) (x := .int .i64 0) (y := .int .i64 0) (z := .int .i64 0) HC1.out HC2.out
    have he1 := k1.drew.cell
    have he2 := k2.drew.cell
    have K3 := Lib.hid k3.drew
    clear k1 k2 k3 hc1 hf1 hl1 hc2 hf2 hl2 hc3 hc4
    go_wp2_with fail
    refine bodyPost_ret (v := .tuple #[.int .i64 er, .agg #[.string ⟨#[]⟩, .int .i64 0, .string ⟨#[]⟩, .int .i64 0], .agg #[.int .i64 0, .int .i64 0, .int .i64 0], .slice none 0 0]) ?_ rfl ?_
    · have hres : Tryz.f35.results = #[.tmp 4, .cell 5 30, .cell 6 39, .tmp 7] := rfl
      simp only [results, hres]
      go_simp
    · rw [HE.out]
      exact ⟨⟨_, rfl, ⟨rfl, .inl ⟨rfl, rfl⟩⟩⟩, (DSETo.own H.out HOF.out HT.out ((HO2.out.mono (fun _ _ h => by simp at h ⊢; omega)).trans (K3.out.mono (fun _ _ h => by simp at h ⊢; omega)) (fun _ _ h => h)) HKK.out).le (by omega)⟩
  by_cases hk6 : what = 6
  · subst hk6
    have HE := Lib.hid (show askE D ⟨6, path, q, data, mode⟩ = (zeroA (D.edited.sync path).1, (D.edited.sync path).2) from rfl)
    have hop := Lib.hid (dsync_callE p n G D path W HDS.out HE0.out (by have := HN.out; omega) HS.out.1)
    clear HG
    obtain ⟨er, her⟩ : ∃ er, (D.edited.sync path).1 = er := ⟨_, rfl⟩
    rw [her] at hop HE
    clear her
    go_wp2_with fail
    refine hop.out.mono ?_
    rintro e w1 ⟨rfl, hT⟩
    have HT := Lib.hid hT
    clear hT hop
    obtain ⟨G1, h1, ho1, hp1⟩ := HT.out
    have hb1 := HB1.out.off ho1 (HNO.out _ (by omega) (by have := HSZ.out; omega))
    have hb2 := HB2.out.off ho1 (HNO.out _ (by omega) (by have := HSZ.out; omega))
    have hb3 := HB3.out.off ho1 (HNO.out _ (by omega) (by have := HSZ.out; omega))
    have hb4 := HB4.out.off ho1 (HNO.out _ (by omega) (by have := HSZ.out; omega))
    clear h1 ho1 hp1
    go_upto_region 28 with fail
    refine code_gen (fun W2 => Blk W2 (w.heap.size + 1) 30 #[.string ⟨#[]⟩, .int .i64 0, .string ⟨#[]⟩, .int .i64 0] ∧ Blk W2 (w.heap.size + 2) 39 #[.int .i64 0, .int .i64 0, .int .i64 0] ∧ Blk W2 (w.heap.size + 3) 30 #[.string ⟨#[]⟩, .int .i64 0, .string ⟨#[]⟩, .int .i64 0] ∧ Blk W2 (w.heap.size + 4) 39 #[.int .i64 0, .int .i64 0, .int .i64 0] ∧ Off [w.heap.size + 3, w.heap.size + 4] w1 W2) ⟨hb1, hb2, hb3, hb4, Off.refl _ _⟩ ?_
    clear hb1 hb2 hb3 hb4
    rintro W2 ⟨hb1, hb2, hb3, hb4, ho2⟩
    have hc1 := hb1.cell
    have hf1 := hb1.frozen
    have hl1 := hb1.lt
    have HC1 := Lib.hid hb1
    have hc2 := hb2.cell
    have hf2 := hb2.frozen
    have hl2 := hb2.lt
    have HC2 := Lib.hid hb2
    have hc3 := hb3.cell
    have hc4 := hb4.cell
    have HO2 := Lib.hid ho2
    clear hb1 hb2 hb3 hb4 ho2
    go_region
    obtain ⟨k1, k2, k3⟩ := put7 (a := .string ⟨#[]⟩) (b := .int .i64 0) (c := .string ⟨#[]⟩) (d := .int .i64 0) (x := .int .i64 0) (y := .int .i64 0) (z := .int .i64 0) HC1.out HC2.out
    have he1 := k1.drew.cell
    have he2 := k2.drew.cell
    have K3 := Lib.hid k3.drew
    clear k1 k2 k3 hc1 hf1 hl1 hc2 hf2 hl2 hc3 hc4
    go_wp2_with fail
    refine bodyPost_ret (v := .tuple #[.int .i64 er, .agg #[.string ⟨#[]⟩, .int .i64 0, .string ⟨#[]⟩, .int .i64 0], .agg #[.int .i64 0, .int .i64 0, .int .i64 0], .slice none 0 0]) ?_ rfl ?_
    · have hres : Tryz.f35.results = #[.tmp 4, .cell 5 30, .cell 6 39, .tmp 7] := rfl
      simp only [results, hres]
      go_simp
    · rw [HE.out]
      exact ⟨⟨_, rfl, ⟨rfl, .inl ⟨rfl, rfl⟩⟩⟩, (DSETo.own H.out HOF.out HT.out ((HO2.out.mono (fun _ _ h => by simp at h ⊢; omega)).trans (K3.out.mono (fun _ _ h => by simp at h ⊢; omega)) (fun _ _ h => h)) HKK.out).le (by omega)⟩
  by_cases hk7 : what = 7
  · subst hk7
    have HE := Lib.hid (show askE D ⟨7, path, q, data, mode⟩ = (zeroA D.edited.flush.1, D.edited.flush.2) from rfl)
    have hop := Lib.hid (flush_callE p n G D W HDS.out HE0.out (by have := HN.out; omega))
    clear HG
    obtain ⟨er, her⟩ : ∃ er, D.edited.flush.1 = er := ⟨_, rfl⟩
    rw [her] at hop HE
    clear her
    go_wp2_with fail
    refine hop.out.mono ?_
    rintro e w1 ⟨rfl, hT⟩
    have HT := Lib.hid hT
    clear hT hop
    obtain ⟨G1, h1, ho1, hp1⟩ := HT.out
    have hb1 := HB1.out.off ho1 (HNO.out _ (by omega) (by have := HSZ.out; omega))
    have hb2 := HB2.out.off ho1 (HNO.out _ (by omega) (by have := HSZ.out; omega))
    have hb3 := HB3.out.off ho1 (HNO.out _ (by omega) (by have := HSZ.out; omega))
    have hb4 := HB4.out.off ho1 (HNO.out _ (by omega) (by have := HSZ.out; omega))
    clear h1 ho1 hp1
    go_upto_region 28 with fail
    refine code_gen (fun W2 => Blk W2 (w.heap.size + 1) 30 #[.string ⟨#[]⟩, .int .i64 0, .string ⟨#[]⟩, .int .i64 0] ∧ Blk W2 (w.heap.size + 2) 39 #[.int .i64 0, .int .i64 0, .int .i64 0] ∧ Blk W2 (w.heap.size + 3) 30 #[.string ⟨#[]⟩, .int .i64 0, .string ⟨#[]⟩, .int .i64 0] ∧ Blk W2 (w.heap.size + 4) 39 #[.int .i64 0, .int .i64 0, .int .i64 0] ∧ Off [w.heap.size + 3, w.heap.size + 4] w1 W2) ⟨hb1, hb2, hb3, hb4, Off.refl _ _⟩ ?_
    clear hb1 hb2 hb3 hb4
    rintro W2 ⟨hb1, hb2, hb3, hb4, ho2⟩
    have hc1 := hb1.cell
    have hf1 := hb1.frozen
    have hl1 := hb1.lt
    have HC1 := Lib.hid hb1
    have hc2 := hb2.cell
    have hf2 := hb2.frozen
    have hl2 := hb2.lt
    have HC2 := Lib.hid hb2
    have hc3 := hb3.cell
    have hc4 := hb4.cell
    have HO2 := Lib.hid ho2
    clear hb1 hb2 hb3 hb4 ho2
    go_region
    obtain ⟨k1, k2, k3⟩ := put7 (a := .string ⟨#[]⟩) (b := .int .i64 0) (c := .string ⟨#[]⟩) (d := .int .i64 0) (x := .int .i64 0) (y := .int .i64 0) (z := .int .i64 0) HC1.out HC2.out
    have he1 := k1.drew.cell
    have he2 := k2.drew.cell
    have K3 := Lib.hid k3.drew
    clear k1 k2 k3 hc1 hf1 hl1 hc2 hf2 hl2 hc3 hc4
    go_wp2_with fail
    refine bodyPost_ret (v := .tuple #[.int .i64 er, .agg #[.string ⟨#[]⟩, .int .i64 0, .string ⟨#[]⟩, .int .i64 0], .agg #[.int .i64 0, .int .i64 0, .int .i64 0], .slice none 0 0]) ?_ rfl ?_
    · have hres : Tryz.f35.results = #[.tmp 4, .cell 5 30, .cell 6 39, .tmp 7] := rfl
      simp only [results, hres]
      go_simp
    · rw [HE.out]
      exact ⟨⟨_, rfl, ⟨rfl, .inl ⟨rfl, rfl⟩⟩⟩, (DSETo.own H.out HOF.out HT.out ((HO2.out.mono (fun _ _ h => by simp at h ⊢; omega)).trans (K3.out.mono (fun _ _ h => by simp at h ⊢; omega)) (fun _ _ h => h)) HKK.out).le (by omega)⟩
  by_cases hk8 : what = 8
  · subst hk8
    have HE := Lib.hid (show askE D ⟨8, path, q, data, mode⟩ = (⟨(D.edited.get path).1.1, (D.edited.get path).1.2.1, (D.edited.get path).1.2.2.1, (D.edited.get path).1.2.2.2.1, (D.edited.get path).1.2.2.2.2, []⟩, (D.edited.get path).2) from rfl)
    have hop := Lib.hid (dget_callE p n G D path W HDS.out HE0.out (by have := HN.out; omega) HS.out.1)
    clear HG
    unfold getVal at hop
    obtain ⟨⟨ge, nd, gi, gs, gt⟩, hgv⟩ : ∃ g, (D.edited.get path).1 = g := ⟨_, rfl⟩
    rw [hgv] at hop HE
    clear hgv
    go_wp2_with fail
    refine hop.out.mono ?_
    rintro e w1 ⟨rfl, hT⟩
    have HT := Lib.hid hT
    clear hT hop
    obtain ⟨G1, h1, ho1, hp1⟩ := HT.out
    have hb1 := HB1.out.off ho1 (HNO.out _ (by omega) (by have := HSZ.out; omega))
    have hb2 := HB2.out.off ho1 (HNO.out _ (by omega) (by have := HSZ.out; omega))
    have hb3 := HB3.out.off ho1 (HNO.out _ (by omega) (by have := HSZ.out; omega))
    have hb4 := HB4.out.off ho1 (HNO.out _ (by omega) (by have := HSZ.out; omega))
    clear h1 ho1 hp1
    have hc3 := hb3.cell
    have hf3 := hb3.frozen
    have hl3 := hb3.lt
    have hc4 := hb4.cell
    have hf4 := hb4.frozen
    have hl4 := hb4.lt
    go_upto_region 28 with fail
    obtain ⟨k1, k2, k3⟩ := put7 (a := .string nd.path) (b := .int .i64 nd.kind) (c := .string nd.data) (d := .int .i64 nd.mode) (x := .int .i64 gi) (y := .int .i64 gs) (z := .int .i64 gt) hb3 hb4
    have j1 := hb1.off k3 (by simp)
    have j2 := hb2.off k3 (by simp)
    refine code_gen (fun W2 => Blk W2 (w.heap.size + 1) 30 #[.string ⟨#[]⟩, .int .i64 0, .string ⟨#[]⟩, .int .i64 0] ∧ Blk W2 (w.heap.size + 2) 39 #[.int .i64 0, .int .i64 0, .int .i64 0] ∧ Blk W2 (w.heap.size + 3) 30 #[.string nd.path, .int .i64 nd.kind, .string nd.data, .int .i64 nd.mode] ∧ Blk W2 (w.heap.size + 4) 39 #[.int .i64 gi, .int .i64 gs, .int .i64 gt] ∧ Off [w.heap.size + 3, w.heap.size + 4] w1 W2) ⟨j1, j2, k1, k2, k3⟩ ?_
    clear hc3 hf3 hl3 hc4 hf4 hl4 k1 k2 k3 j1 j2
    clear hb1 hb2 hb3 hb4
    rintro W2 ⟨hb1, hb2, hb3, hb4, ho2⟩
    have hc1 := hb1.cell
    have hf1 := hb1.frozen
    have hl1 := hb1.lt
    have HC1 := Lib.hid hb1
    have hc2 := hb2.cell
    have hf2 := hb2.frozen
    have hl2 := hb2.lt
    have HC2 := Lib.hid hb2
    have hc3 := hb3.cell
    have hc4 := hb4.cell
    have HO2 := Lib.hid ho2
    clear hb1 hb2 hb3 hb4 ho2
    go_region
    obtain ⟨k1, k2, k3⟩ := put7 (a := .string nd.path) (b := .int .i64 nd.kind) (c := .string nd.data) (d := .int .i64 nd.mode) (x := .int .i64 gi) (y := .int .i64 gs) (z := .int .i64 gt) HC1.out HC2.out
    have he1 := k1.drew.cell
    have he2 := k2.drew.cell
    have K3 := Lib.hid k3.drew
    clear k1 k2 k3 hc1 hf1 hl1 hc2 hf2 hl2 hc3 hc4
    go_wp2_with fail
    refine bodyPost_ret (v := .tuple #[.int .i64 ge, .agg #[.string nd.path, .int .i64 nd.kind, .string nd.data, .int .i64 nd.mode], .agg #[.int .i64 gi, .int .i64 gs, .int .i64 gt], .slice none 0 0]) ?_ rfl ?_
    · have hres : Tryz.f35.results = #[.tmp 4, .cell 5 30, .cell 6 39, .tmp 7] := rfl
      simp only [results, hres]
      go_simp
    · rw [HE.out]
      exact ⟨⟨_, rfl, ⟨rfl, .inl ⟨rfl, rfl⟩⟩⟩, (DSETo.own H.out HOF.out HT.out ((HO2.out.mono (fun _ _ h => by simp at h ⊢; omega)).trans (K3.out.mono (fun _ _ h => by simp at h ⊢; omega)) (fun _ _ h => h)) HKK.out).le (by omega)⟩
  by_cases hk9 : what = 9
  · subst hk9
    have HE := Lib.hid (show askE D ⟨9, path, q, data, mode⟩ = (⟨(D.edited.namesC path).1.2, ⟨⟨#[]⟩, 0, ⟨#[]⟩, 0⟩, 0, 0, 0, (D.edited.namesC path).1.1⟩, (D.edited.namesC path).2) from rfl)
    have hop := Lib.hid (dnames_callE p n G D path W HDS.out HE0.out (by have := HN.out; omega) HS.out.1 HFF.out)
    clear HG
    obtain ⟨ne, hne⟩ : ∃ ne, (D.edited.namesC path).1.2 = ne := ⟨_, rfl⟩
    rw [hne] at hop HE
    clear hne
    obtain ⟨NL, hNL⟩ : ∃ NL, (D.edited.namesC path).1.1 = NL := ⟨_, rfl⟩
    rw [hNL] at hop HE
    clear hNL
    go_wp2_with fail
    refine hop.out.mono ?_
    rintro e w1 ⟨v, wm, rfl, hrow, hTm, hom⟩
    have hT := hTm.off hom
    have hsm : w.heap.size ≤ wm.heap.size := by
      obtain ⟨_, -, h2, -⟩ := hTm
      exact Nat.le_trans HOF.out.size h2.size
    have HROW := Lib.hid (own_base hrow hsm)
    clear hTm hom hrow hsm
    have HT := Lib.hid hT
    clear hT hop
    obtain ⟨G1, h1, ho1, hp1⟩ := HT.out
    have hb1 := HB1.out.off ho1 (HNO.out _ (by omega) (by have := HSZ.out; omega))
    have hb2 := HB2.out.off ho1 (HNO.out _ (by omega) (by have := HSZ.out; omega))
    have hb3 := HB3.out.off ho1 (HNO.out _ (by omega) (by have := HSZ.out; omega))
    have hb4 := HB4.out.off ho1 (HNO.out _ (by omega) (by have := HSZ.out; omega))
    clear h1 ho1 hp1
    have HB3W := Lib.hid hb3
    have HB4W := Lib.hid hb4
    go_upto_region 28 with fail
    refine code_gen (fun W2 => Blk W2 (w.heap.size + 1) 30 #[.string ⟨#[]⟩, .int .i64 0, .string ⟨#[]⟩, .int .i64 0] ∧ Blk W2 (w.heap.size + 2) 39 #[.int .i64 0, .int .i64 0, .int .i64 0] ∧ Blk W2 (w.heap.size + 3) 30 #[.string ⟨#[]⟩, .int .i64 0, .string ⟨#[]⟩, .int .i64 0] ∧ Blk W2 (w.heap.size + 4) 39 #[.int .i64 0, .int .i64 0, .int .i64 0] ∧ Off [w.heap.size + 3, w.heap.size + 4] w1 W2) ⟨hb1, hb2, hb3, hb4, Off.refl _ _⟩ ?_
    clear hb1 hb2 hb3 hb4
    rintro W2 ⟨hb1, hb2, hb3, hb4, ho2⟩
    have hc1 := hb1.cell
    have hf1 := hb1.frozen
    have hl1 := hb1.lt
    have HC1 := Lib.hid hb1
    have hc2 := hb2.cell
    have hf2 := hb2.frozen
    have hl2 := hb2.lt
    have HC2 := Lib.hid hb2
    have hc3 := hb3.cell
    have hc4 := hb4.cell
    have HO2 := Lib.hid ho2
    clear hb1 hb2 hb3 hb4 ho2
    go_region
    obtain ⟨k1, k2, k3⟩ := put7 (a := .string ⟨#[]⟩) (b := .int .i64 0) (c := .string ⟨#[]⟩) (d := .int .i64 0) (x := .int .i64 0) (y := .int .i64 0) (z := .int .i64 0) HC1.out HC2.out
    have he1 := k1.drew.cell
    have he2 := k2.drew.cell
    have K3 := Lib.hid k3.drew
    clear k1 k2 k3 hc1 hf1 hl1 hc2 hf2 hl2 hc3 hc4
    go_wp2_with fail
    refine bodyPost_ret (v := .tuple #[.int .i64 ne, .agg #[.string ⟨#[]⟩, .int .i64 0, .string ⟨#[]⟩, .int .i64 0], .agg #[.int .i64 0, .int .i64 0, .int .i64 0], v]) ?_ rfl ?_
    · have hres : Tryz.f35.results = #[.tmp 4, .cell 5 30, .cell 6 39, .tmp 7] := rfl
      simp only [results, hres]
      go_simp
    · rw [HE.out]
      exact ⟨⟨_, rfl, own_offk (own_offk HROW.out HO2.out (fun b hb hm => by obtain ⟨cs, h1⟩ := own_blks HROW.out b hb; simp at hm; rcases hm with rfl | rfl; exact h1.ne_ HB3W.out (by decide) rfl; exact h1.ne_ HB4W.out (by decide) rfl)) K3.out (fun b hb hm => by obtain ⟨cs, h1⟩ := own_blks (own_offk HROW.out HO2.out (fun b hb hm => by obtain ⟨cs, h1⟩ := own_blks HROW.out b hb; simp at hm; rcases hm with rfl | rfl; exact h1.ne_ HB3W.out (by decide) rfl; exact h1.ne_ HB4W.out (by decide) rfl)) b hb; simp at hm; rcases hm with rfl | rfl; exact h1.ne_ HC1.out (by decide) rfl; exact h1.ne_ HC2.out (by decide) rfl)⟩, (DSETo.own H.out HOF.out HT.out ((HO2.out.mono (fun _ _ h => by simp at h ⊢; omega)).trans (K3.out.mono (fun _ _ h => by simp at h ⊢; omega)) (fun _ _ h => h)) HKK.out).le (by omega)⟩
  by_cases hk10 : what = 10
  · subst hk10
    have HE := Lib.hid (show askE D ⟨10, path, q, data, mode⟩ = (zeroA 0, D.boot []) from rfl)
    have hop := Lib.hid (dboot_callE0 p n G D none [] 0 0 W HDS.out (FRow.nil _ _) rfl (by decide) (fun _ => rfl))
    clear HG
    go_wp2_with fail
    refine hop.out.mono ?_
    rintro e w1 ⟨rfl, hT⟩
    have HT := Lib.hid hT
    clear hT hop
    obtain ⟨G1, h1, ho1, hp1⟩ := HT.out
    have hb1 := HB1.out.off ho1 (HNO.out _ (by omega) (by have := HSZ.out; omega))
    have hb2 := HB2.out.off ho1 (HNO.out _ (by omega) (by have := HSZ.out; omega))
    have hb3 := HB3.out.off ho1 (HNO.out _ (by omega) (by have := HSZ.out; omega))
    have hb4 := HB4.out.off ho1 (HNO.out _ (by omega) (by have := HSZ.out; omega))
    clear h1 ho1 hp1
    go_upto_region 28 with fail
    refine code_gen (fun W2 => Blk W2 (w.heap.size + 1) 30 #[.string ⟨#[]⟩, .int .i64 0, .string ⟨#[]⟩, .int .i64 0] ∧ Blk W2 (w.heap.size + 2) 39 #[.int .i64 0, .int .i64 0, .int .i64 0] ∧ Blk W2 (w.heap.size + 3) 30 #[.string ⟨#[]⟩, .int .i64 0, .string ⟨#[]⟩, .int .i64 0] ∧ Blk W2 (w.heap.size + 4) 39 #[.int .i64 0, .int .i64 0, .int .i64 0] ∧ Off [w.heap.size + 3, w.heap.size + 4] w1 W2) ⟨hb1, hb2, hb3, hb4, Off.refl _ _⟩ ?_
    clear hb1 hb2 hb3 hb4
    rintro W2 ⟨hb1, hb2, hb3, hb4, ho2⟩
    have hc1 := hb1.cell
    have hf1 := hb1.frozen
    have hl1 := hb1.lt
    have HC1 := Lib.hid hb1
    have hc2 := hb2.cell
    have hf2 := hb2.frozen
    have hl2 := hb2.lt
    have HC2 := Lib.hid hb2
    have hc3 := hb3.cell
    have hc4 := hb4.cell
    have HO2 := Lib.hid ho2
    clear hb1 hb2 hb3 hb4 ho2
    go_region
    obtain ⟨k1, k2, k3⟩ := put7 (a := .string ⟨#[]⟩) (b := .int .i64 0) (c := .string ⟨#[]⟩) (d := .int .i64 0) (x := .int .i64 0) (y := .int .i64 0) (z := .int .i64 0) HC1.out HC2.out
    have he1 := k1.drew.cell
    have he2 := k2.drew.cell
    have K3 := Lib.hid k3.drew
    clear k1 k2 k3 hc1 hf1 hl1 hc2 hf2 hl2 hc3 hc4
    go_wp2_with fail
    refine bodyPost_ret (v := .tuple #[.int .i64 0, .agg #[.string ⟨#[]⟩, .int .i64 0, .string ⟨#[]⟩, .int .i64 0], .agg #[.int .i64 0, .int .i64 0, .int .i64 0], .slice none 0 0]) ?_ rfl ?_
    · have hres : Tryz.f35.results = #[.tmp 4, .cell 5 30, .cell 6 39, .tmp 7] := rfl
      simp only [results, hres]
      go_simp
    · rw [HE.out]
      exact ⟨⟨_, rfl, ⟨rfl, .inl ⟨rfl, rfl⟩⟩⟩, (DSETo.own H.out HOF.out HT.out ((HO2.out.mono (fun _ _ h => by simp at h ⊢; omega)).trans (K3.out.mono (fun _ _ h => by simp at h ⊢; omega)) (fun _ _ h => h)) HKK.out).le (by omega)⟩
  have HE := Lib.hid (show askE D ⟨what, path, q, data, mode⟩ = (zeroA 0, D) by rw [HG.out]; simp only [if_neg hk0, if_neg hk1, if_neg hk2, if_neg hk3, if_neg hk4, if_neg hk5, if_neg hk6, if_neg hk7, if_neg hk8, if_neg hk9, if_neg hk10])
  have HT := Lib.hid (HDS.out.refl)
  clear HG
  have hb1 := HB1.out
  have hb2 := HB2.out
  have hb3 := HB3.out
  have hb4 := HB4.out
  go_upto_region 28 with fail
  refine code_gen (fun W2 => Blk W2 (w.heap.size + 1) 30 #[.string ⟨#[]⟩, .int .i64 0, .string ⟨#[]⟩, .int .i64 0] ∧ Blk W2 (w.heap.size + 2) 39 #[.int .i64 0, .int .i64 0, .int .i64 0] ∧ Blk W2 (w.heap.size + 3) 30 #[.string ⟨#[]⟩, .int .i64 0, .string ⟨#[]⟩, .int .i64 0] ∧ Blk W2 (w.heap.size + 4) 39 #[.int .i64 0, .int .i64 0, .int .i64 0] ∧ Off [w.heap.size + 3, w.heap.size + 4] W W2) ⟨hb1, hb2, hb3, hb4, Off.refl _ _⟩ ?_
  clear hb1 hb2 hb3 hb4
  rintro W2 ⟨hb1, hb2, hb3, hb4, ho2⟩
  have hc1 := hb1.cell
  have hf1 := hb1.frozen
  have hl1 := hb1.lt
  have HC1 := Lib.hid hb1
  have hc2 := hb2.cell
  have hf2 := hb2.frozen
  have hl2 := hb2.lt
  have HC2 := Lib.hid hb2
  have hc3 := hb3.cell
  have hc4 := hb4.cell
  have HO2 := Lib.hid ho2
  clear hb1 hb2 hb3 hb4 ho2
  go_region
  obtain ⟨k1, k2, k3⟩ := put7 (a := .string ⟨#[]⟩) (b := .int .i64 0) (c := .string ⟨#[]⟩) (d := .int .i64 0) (x := .int .i64 0) (y := .int .i64 0) (z := .int .i64 0) HC1.out HC2.out
  have he1 := k1.drew.cell
  have he2 := k2.drew.cell
  have K3 := Lib.hid k3.drew
  clear k1 k2 k3 hc1 hf1 hl1 hc2 hf2 hl2 hc3 hc4
  go_wp2_with fail
  refine bodyPost_ret (v := .tuple #[.int .i64 0, .agg #[.string ⟨#[]⟩, .int .i64 0, .string ⟨#[]⟩, .int .i64 0], .agg #[.int .i64 0, .int .i64 0, .int .i64 0], .slice none 0 0]) ?_ rfl ?_
  · have hres : Tryz.f35.results = #[.tmp 4, .cell 5 30, .cell 6 39, .tmp 7] := rfl
    simp only [results, hres]
    go_simp
  · rw [HE.out]
    exact ⟨⟨_, rfl, ⟨rfl, .inl ⟨rfl, rfl⟩⟩⟩, (DSETo.own H.out HOF.out HT.out ((HO2.out.mono (fun _ _ h => by simp at h ⊢; omega)).trans (K3.out.mono (fun _ _ h => by simp at h ⊢; omega)) (fun _ _ h => h)) HKK.out).le (by omega)⟩
end Go.Proofs.YtgcfkljooabjjaaGreatDoor

/- hawserlaw07.ask: what it leaves of a disk (not what it answers). Conditions: what each contract states. -/
namespace Go.Proofs.YtgcfkljooabjjaaGreatDoor
open Go.RowKit Go.Op Go.Maps

/-- what a call leaves of a disk -/
def askD (D : PDisk) (c : CallP) : PDisk :=
  if c.what = 0 then (D.write c.path c.data c.mode).2 else if c.what = 1 then (D.mkdir c.path).2 else if c.what = 2 then (D.link c.path c.to_).2 else if c.what = 3 then (D.remove c.path).2
  else if c.what = 4 then (D.move c.path c.to_).2 else if c.what = 5 then (D.replace c.path c.to_).2 else if c.what = 6 then (D.sync c.path).2 else if c.what = 7 then D.flush.2
  else if c.what = 8 then (D.get c.path).2 else if c.what = 9 then (D.namesC c.path).2 else if c.what = 10 then D.boot [] else D
set_option maxRecDepth 100000 in
set_option maxHeartbeats 16000000 in
theorem ask_on (p n : Nat) (G : Geo) (D : PDisk) (c : CallP) (w : World) (h : DS w p G D n) (hn : n ≤ 80000) (hF : Light D) (hs1 : c.path.size ≤ 9223372036854775807) (hs2 : c.to_.size ≤ 9223372036854775807)
    (hfr : ∀ E, (D.step ⟨#[77, 111, 118, 101]⟩ c.path c.to_).2.2 = E → firstE (E.mvE c.path c.to_) = 0 → Free c.path c.to_ E.names) :
    Calls Tryz.prog 35 #[.pointer (some ⟨p, 0, none⟩), callV c] w fun e w' => (∃ v, e = .returned v) ∧ DSTo w p G.parts w' (askD D c) (n + 2) := by
  obtain ⟨what, path, q, data, mode⟩ := c
  have H := Lib.hid h
  have HN := Lib.hid hn
  have HFF := Lib.hid hF
  have HS := Lib.hid (And.intro (show path.size ≤ 9223372036854775807 from hs1) (show q.size ≤ 9223372036854775807 from hs2))
  have HFR := Lib.hid (show ∀ E, (D.step ⟨#[77, 111, 118, 101]⟩ path q).2.2 = E → firstE (E.mvE path q) = 0 → Free path q E.names from hfr)
  have HG := Lib.hid (show askD D ⟨what, path, q, data, mode⟩ = if what = 0 then (D.write path data mode).2 else if what = 1 then (D.mkdir path).2 else if what = 2 then (D.link path q).2 else if what = 3 then (D.remove path).2
    else if what = 4 then (D.move path q).2 else if what = 5 then (D.replace path q).2 else if what = 6 then (D.sync path).2 else if what = 7 then D.flush.2
    else if what = 8 then (D.get path).2 else if what = 9 then (D.namesC path).2 else if what = 10 then D.boot [] else D from rfl)
  show Calls Tryz.prog 35 #[.pointer (some ⟨p, 0, none⟩), .agg #[.int .i64 what, .string path, .string q, .string data, .int .i64 mode]] w fun e w' => (∃ v, e = .returned v) ∧ DSTo w p G.parts w' (askD D ⟨what, path, q, data, mode⟩) (n + 2)
  clear h hn hF hs1 hs2 hfr
  go_enter Tryz.func35, Tryz.ntmps35
  go_upto_region 5 with fail
  refine code_gen (fun W => Blk W w.heap.size 77 #[.int .i64 what, .string path, .string q, .string data, .int .i64 mode] ∧ Blk W (w.heap.size + 1) 30 #[.string ⟨#[]⟩, .int .i64 0, .string ⟨#[]⟩, .int .i64 0] ∧ Blk W (w.heap.size + 2) 39 #[.int .i64 0, .int .i64 0, .int .i64 0] ∧ Blk W (w.heap.size + 3) 30 #[.string ⟨#[]⟩, .int .i64 0, .string ⟨#[]⟩, .int .i64 0] ∧ Blk W (w.heap.size + 4) 39 #[.int .i64 0, .int .i64 0, .int .i64 0] ∧ Off [] w W ∧ w.heap.size + 4 < W.heap.size)
    ⟨((((Blk.new w _ _).alloc _).alloc _).alloc _).alloc _, (((Blk.new1 w _ _ _).alloc _).alloc _).alloc _, ((Blk.new2 w _ _ _ _).alloc _).alloc _, (Blk.new3' w _ _ _ _ _).alloc _, Blk.new4' w _ _ _ _ _ _, (((((Off.refl _ _).alloc _).alloc _).alloc _).alloc _).alloc _, by simp⟩ ?_
  rintro W ⟨hb0, hb1, hb2, hb3, hb4, hof, hsz⟩
  have HB1 := Lib.hid hb1
  have HB2 := Lib.hid hb2
  have HB3 := Lib.hid hb3
  have HB4 := Lib.hid hb4
  have HOF := Lib.hid hof
  have HSZ := Lib.hid hsz
  have hc0 := hb0.cell
  have HDS := Lib.hid (H.out.off hof)
  have HNO := Lib.hid (show ∀ b, w.heap.size ≤ b → b < W.heap.size → b ∉ p :: G.parts from fun b hb _ hm => by
    rcases List.mem_cons.1 hm with rfl | hm
    · have := H.out.m.blk.lt; omega
    · have := H.out.m.parts.lt hm; omega)
  have HKK := Lib.hid (show ∀ b ∈ [w.heap.size + 1, w.heap.size + 2, w.heap.size + 3, w.heap.size + 4], w.heap.size ≤ b ∧ b < W.heap.size from fun b hb => by
    have := HSZ.out
    simp at hb
    omega)
  clear hb0 hb1 hb2 hb3 hb4 hof hsz
  by_cases hk0 : what = 0
  · subst hk0
    have HE := Lib.hid (show askD D ⟨0, path, q, data, mode⟩ = (D.write path data mode).2 from rfl)
    have hop := Lib.hid (dwrite_call p n G D path data mode W HDS.out (by have := HN.out; omega) HS.out.1)
    clear HG
    obtain ⟨er, her⟩ : ∃ er, (D.write path data mode).1 = er := ⟨_, rfl⟩
    rw [her] at hop
    clear her
    go_wp2_with fail
    refine hop.out.mono ?_
    rintro e w1 ⟨rfl, hT⟩
    have HT := Lib.hid hT
    clear hT hop
    obtain ⟨G1, h1, ho1, hp1⟩ := HT.out
    have hb1 := HB1.out.off ho1 (HNO.out _ (by omega) (by have := HSZ.out; omega))
    have hb2 := HB2.out.off ho1 (HNO.out _ (by omega) (by have := HSZ.out; omega))
    have hb3 := HB3.out.off ho1 (HNO.out _ (by omega) (by have := HSZ.out; omega))
    have hb4 := HB4.out.off ho1 (HNO.out _ (by omega) (by have := HSZ.out; omega))
    clear h1 ho1 hp1
    go_upto_region 28 with fail
    refine code_gen (fun W2 => Blk W2 (w.heap.size + 1) 30 #[.string ⟨#[]⟩, .int .i64 0, .string ⟨#[]⟩, .int .i64 0] ∧ Blk W2 (w.heap.size + 2) 39 #[.int .i64 0, .int .i64 0, .int .i64 0] ∧ Blk W2 (w.heap.size + 3) 30 #[.string ⟨#[]⟩, .int .i64 0, .string ⟨#[]⟩, .int .i64 0] ∧ Blk W2 (w.heap.size + 4) 39 #[.int .i64 0, .int .i64 0, .int .i64 0] ∧ Off [w.heap.size + 3, w.heap.size + 4] w1 W2) ⟨hb1, hb2, hb3, hb4, Off.refl _ _⟩ ?_
    clear hb1 hb2 hb3 hb4
    rintro W2 ⟨hb1, hb2, hb3, hb4, ho2⟩
    have hc1 := hb1.cell
    have hf1 := hb1.frozen
    have hl1 := hb1.lt
    have HC1 := Lib.hid hb1
    have hc2 := hb2.cell
    have hf2 := hb2.frozen
    have hl2 := hb2.lt
    have HC2 := Lib.hid hb2
    have hc3 := hb3.cell
    have hc4 := hb4.cell
    have HO2 := Lib.hid ho2
    clear hb1 hb2 hb3 hb4 ho2
    go_region
    obtain ⟨k1, k2, k3⟩ := put7 (a := .string ⟨#[]⟩) (b := .int .i64 0) (c := .string ⟨#[]⟩) (d := .int .i64 0) (x := .int .i64 0) (y := .int .i64 0) (z := .int .i64 0) HC1.out HC2.out
    have he1 := k1.drew.cell
    have he2 := k2.drew.cell
    have K3 := Lib.hid k3.drew
    clear k1 k2 k3 hc1 hf1 hl1 hc2 hf2 hl2 hc3 hc4
    go_wp2_with fail
    refine bodyPost_ret (v := .tuple #[.int .i64 er, .agg #[.string ⟨#[]⟩, .int .i64 0, .string ⟨#[]⟩, .int .i64 0], .agg #[.int .i64 0, .int .i64 0, .int .i64 0], .slice none 0 0]) ?_ rfl ?_
    · have hres : Tryz.f35.results = #[.tmp 4, .cell 5 30, .cell 6 39, .tmp 7] := rfl
      simp only [results, hres]
      go_simp
    · rw [HE.out]
      exact ⟨⟨_, rfl⟩, (DSTo.own H.out HOF.out HT.out ((HO2.out.mono (fun _ _ h => by simp at h ⊢; omega)).trans (K3.out.mono (fun _ _ h => by simp at h ⊢; omega)) (fun _ _ h => h)) HKK.out).le (by omega)⟩
  by_cases hk1 : what = 1
  · subst hk1
    have HE := Lib.hid (show askD D ⟨1, path, q, data, mode⟩ = (D.mkdir path).2 from rfl)
    have hop := Lib.hid (dmkdir_call p n G D path W HDS.out (by have := HN.out; omega) HS.out.1)
    clear HG
    obtain ⟨er, her⟩ : ∃ er, (D.mkdir path).1 = er := ⟨_, rfl⟩
    rw [her] at hop
    clear her
    go_wp2_with fail
    refine hop.out.mono ?_
    rintro e w1 ⟨rfl, hT⟩
    have HT := Lib.hid hT
    clear hT hop
    obtain ⟨G1, h1, ho1, hp1⟩ := HT.out
    have hb1 := HB1.out.off ho1 (HNO.out _ (by omega) (by have := HSZ.out; omega))
    have hb2 := HB2.out.off ho1 (HNO.out _ (by omega) (by have := HSZ.out; omega))
    have hb3 := HB3.out.off ho1 (HNO.out _ (by omega) (by have := HSZ.out; omega))
    have hb4 := HB4.out.off ho1 (HNO.out _ (by omega) (by have := HSZ.out; omega))
    clear h1 ho1 hp1
    go_upto_region 28 with fail
    refine code_gen (fun W2 => Blk W2 (w.heap.size + 1) 30 #[.string ⟨#[]⟩, .int .i64 0, .string ⟨#[]⟩, .int .i64 0] ∧ Blk W2 (w.heap.size + 2) 39 #[.int .i64 0, .int .i64 0, .int .i64 0] ∧ Blk W2 (w.heap.size + 3) 30 #[.string ⟨#[]⟩, .int .i64 0, .string ⟨#[]⟩, .int .i64 0] ∧ Blk W2 (w.heap.size + 4) 39 #[.int .i64 0, .int .i64 0, .int .i64 0] ∧ Off [w.heap.size + 3, w.heap.size + 4] w1 W2) ⟨hb1, hb2, hb3, hb4, Off.refl _ _⟩ ?_
    clear hb1 hb2 hb3 hb4
    rintro W2 ⟨hb1, hb2, hb3, hb4, ho2⟩
    have hc1 := hb1.cell
    have hf1 := hb1.frozen
    have hl1 := hb1.lt
    have HC1 := Lib.hid hb1
    have hc2 := hb2.cell
    have hf2 := hb2.frozen
    have hl2 := hb2.lt
    have HC2 := Lib.hid hb2
    have hc3 := hb3.cell
    have hc4 := hb4.cell
    have HO2 := Lib.hid ho2
    clear hb1 hb2 hb3 hb4 ho2
    go_region
    obtain ⟨k1, k2, k3⟩ := put7 (a := .string ⟨#[]⟩) (b := .int .i64 0) (c := .string ⟨#[]⟩) (d := .int .i64 0) (x := .int .i64 0) (y := .int .i64 0) (z := .int .i64 0) HC1.out HC2.out
    have he1 := k1.drew.cell
    have he2 := k2.drew.cell
    have K3 := Lib.hid k3.drew
    clear k1 k2 k3 hc1 hf1 hl1 hc2 hf2 hl2 hc3 hc4
    go_wp2_with fail
    refine bodyPost_ret (v := .tuple #[.int .i64 er, .agg #[.string ⟨#[]⟩, .int .i64 0, .string ⟨#[]⟩, .int .i64 0], .agg #[.int .i64 0, .int .i64 0, .int .i64 0], .slice none 0 0]) ?_ rfl ?_
    · have hres : Tryz.f35.results = #[.tmp 4, .cell 5 30, .cell 6 39, .tmp 7] := rfl
      simp only [results, hres]
      go_simp
    · rw [HE.out]
      exact ⟨⟨_, rfl⟩, (DSTo.own H.out HOF.out HT.out ((HO2.out.mono (fun _ _ h => by simp at h ⊢; omega)).trans (K3.out.mono (fun _ _ h => by simp at h ⊢; omega)) (fun _ _ h => h)) HKK.out).le (by omega)⟩
  by_cases hk2 : what = 2
  · subst hk2
    have HE := Lib.hid (show askD D ⟨2, path, q, data, mode⟩ = (D.link path q).2 from rfl)
    have hop := Lib.hid (dlink_call p n G D path q W HDS.out (by have := HN.out; omega) HS.out.1)
    clear HG
    obtain ⟨er, her⟩ : ∃ er, (D.link path q).1 = er := ⟨_, rfl⟩
    rw [her] at hop
    clear her
    go_wp2_with fail
    refine hop.out.mono ?_
    rintro e w1 ⟨rfl, hT⟩
    have HT := Lib.hid hT
    clear hT hop
    obtain ⟨G1, h1, ho1, hp1⟩ := HT.out
    have hb1 := HB1.out.off ho1 (HNO.out _ (by omega) (by have := HSZ.out; omega))
    have hb2 := HB2.out.off ho1 (HNO.out _ (by omega) (by have := HSZ.out; omega))
    have hb3 := HB3.out.off ho1 (HNO.out _ (by omega) (by have := HSZ.out; omega))
    have hb4 := HB4.out.off ho1 (HNO.out _ (by omega) (by have := HSZ.out; omega))
    clear h1 ho1 hp1
    go_upto_region 28 with fail
    refine code_gen (fun W2 => Blk W2 (w.heap.size + 1) 30 #[.string ⟨#[]⟩, .int .i64 0, .string ⟨#[]⟩, .int .i64 0] ∧ Blk W2 (w.heap.size + 2) 39 #[.int .i64 0, .int .i64 0, .int .i64 0] ∧ Blk W2 (w.heap.size + 3) 30 #[.string ⟨#[]⟩, .int .i64 0, .string ⟨#[]⟩, .int .i64 0] ∧ Blk W2 (w.heap.size + 4) 39 #[.int .i64 0, .int .i64 0, .int .i64 0] ∧ Off [w.heap.size + 3, w.heap.size + 4] w1 W2) ⟨hb1, hb2, hb3, hb4, Off.refl _ _⟩ ?_
    clear hb1 hb2 hb3 hb4
    rintro W2 ⟨hb1, hb2, hb3, hb4, ho2⟩
    have hc1 := hb1.cell
    have hf1 := hb1.frozen
    have hl1 := hb1.lt
    have HC1 := Lib.hid hb1
    have hc2 := hb2.cell
    have hf2 := hb2.frozen
    have hl2 := hb2.lt
    have HC2 := Lib.hid hb2
    have hc3 := hb3.cell
    have hc4 := hb4.cell
    have HO2 := Lib.hid ho2
    clear hb1 hb2 hb3 hb4 ho2
    go_region
    obtain ⟨k1, k2, k3⟩ := put7 (a := .string ⟨#[]⟩) (b := .int .i64 0) (c := .string ⟨#[]⟩) (d := .int .i64 0) (x := .int .i64 0) (y := .int .i64 0) (z := .int .i64 0) HC1.out HC2.out
    have he1 := k1.drew.cell
    have he2 := k2.drew.cell
    have K3 := Lib.hid k3.drew
    clear k1 k2 k3 hc1 hf1 hl1 hc2 hf2 hl2 hc3 hc4
    go_wp2_with fail
    refine bodyPost_ret (v := .tuple #[.int .i64 er, .agg #[.string ⟨#[]⟩, .int .i64 0, .string ⟨#[]⟩, .int .i64 0], .agg #[.int .i64 0, .int .i64 0, .int .i64 0], .slice none 0 0]) ?_ rfl ?_
    · have hres : Tryz.f35.results = #[.tmp 4, .cell 5 30, .cell 6 39, .tmp 7] := rfl
      simp only [results, hres]
      go_simp
    · rw [HE.out]
      exact ⟨⟨_, rfl⟩, (DSTo.own H.out HOF.out HT.out ((HO2.out.mono (fun _ _ h => by simp at h ⊢; omega)).trans (K3.out.mono (fun _ _ h => by simp at h ⊢; omega)) (fun _ _ h => h)) HKK.out).le (by omega)⟩
  by_cases hk3 : what = 3
  · subst hk3
    have HE := Lib.hid (show askD D ⟨3, path, q, data, mode⟩ = (D.remove path).2 from rfl)
    have hop := Lib.hid (dremove_call p n G D path W HDS.out (by have := HN.out; omega) HS.out.1)
    clear HG
    obtain ⟨er, her⟩ : ∃ er, (D.remove path).1 = er := ⟨_, rfl⟩
    rw [her] at hop
    clear her
    go_wp2_with fail
    refine hop.out.mono ?_
    rintro e w1 ⟨rfl, hT⟩
    have HT := Lib.hid hT
    clear hT hop
    obtain ⟨G1, h1, ho1, hp1⟩ := HT.out
    have hb1 := HB1.out.off ho1 (HNO.out _ (by omega) (by have := HSZ.out; omega))
    have hb2 := HB2.out.off ho1 (HNO.out _ (by omega) (by have := HSZ.out; omega))
    have hb3 := HB3.out.off ho1 (HNO.out _ (by omega) (by have := HSZ.out; omega))
    have hb4 := HB4.out.off ho1 (HNO.out _ (by omega) (by have := HSZ.out; omega))
    clear h1 ho1 hp1
    go_upto_region 28 with fail
    refine code_gen (fun W2 => Blk W2 (w.heap.size + 1) 30 #[.string ⟨#[]⟩, .int .i64 0, .string ⟨#[]⟩, .int .i64 0] ∧ Blk W2 (w.heap.size + 2) 39 #[.int .i64 0, .int .i64 0, .int .i64 0] ∧ Blk W2 (w.heap.size + 3) 30 #[.string ⟨#[]⟩, .int .i64 0, .string ⟨#[]⟩, .int .i64 0] ∧ Blk W2 (w.heap.size + 4) 39 #[.int .i64 0, .int .i64 0, .int .i64 0] ∧ Off [w.heap.size + 3, w.heap.size + 4] w1 W2) ⟨hb1, hb2, hb3, hb4, Off.refl _ _⟩ ?_
    clear hb1 hb2 hb3 hb4
    rintro W2 ⟨hb1, hb2, hb3, hb4, ho2⟩
    have hc1 := hb1.cell
    have hf1 := hb1.frozen
    have hl1 := hb1.lt
    have HC1 := Lib.hid hb1
    have hc2 := hb2.cell
    have hf2 := hb2.frozen
    have hl2 := hb2.lt
    have HC2 := Lib.hid hb2
    have hc3 := hb3.cell
    have hc4 := hb4.cell
    have HO2 := Lib.hid ho2
    clear hb1 hb2 hb3 hb4 ho2
    go_region
    obtain ⟨k1, k2, k3⟩ := put7 (a := .string ⟨#[]⟩) (b := .int .i64 0) (c := .string ⟨#[]⟩) (d := .int .i64 0) (x := .int .i64 0) (y := .int .i64 0) (z := .int .i64 0) HC1.out HC2.out
    have he1 := k1.drew.cell
    have he2 := k2.drew.cell
    have K3 := Lib.hid k3.drew
    clear k1 k2 k3 hc1 hf1 hl1 hc2 hf2 hl2 hc3 hc4
    go_wp2_with fail
    refine bodyPost_ret (v := .tuple #[.int .i64 er, .agg #[.string ⟨#[]⟩, .int .i64 0, .string ⟨#[]⟩, .int .i64 0], .agg #[.int .i64 0, .int .i64 0, .int .i64 0], .slice none 0 0]) ?_ rfl ?_
    · have hres : Tryz.f35.results = #[.tmp 4, .cell 5 30, .cell 6 39, .tmp 7] := rfl
      simp only [results, hres]
      go_simp
    · rw [HE.out]
      exact ⟨⟨_, rfl⟩, (DSTo.own H.out HOF.out HT.out ((HO2.out.mono (fun _ _ h => by simp at h ⊢; omega)).trans (K3.out.mono (fun _ _ h => by simp at h ⊢; omega)) (fun _ _ h => h)) HKK.out).le (by omega)⟩
  by_cases hk4 : what = 4
  · subst hk4
    have HE := Lib.hid (show askD D ⟨4, path, q, data, mode⟩ = (D.move path q).2 from rfl)
    have hop := Lib.hid (dmove_call p n G D path q W HDS.out (by have := HN.out; omega) HS.out.1 HS.out.2 HFR.out)
    clear HG
    obtain ⟨er, her⟩ : ∃ er, (D.move path q).1 = er := ⟨_, rfl⟩
    rw [her] at hop
    clear her
    go_wp2_with fail
    refine hop.out.mono ?_
    rintro e w1 ⟨rfl, hT⟩
    have HT := Lib.hid hT
    clear hT hop
    obtain ⟨G1, h1, ho1, hp1⟩ := HT.out
    have hb1 := HB1.out.off ho1 (HNO.out _ (by omega) (by have := HSZ.out; omega))
    have hb2 := HB2.out.off ho1 (HNO.out _ (by omega) (by have := HSZ.out; omega))
    have hb3 := HB3.out.off ho1 (HNO.out _ (by omega) (by have := HSZ.out; omega))
    have hb4 := HB4.out.off ho1 (HNO.out _ (by omega) (by have := HSZ.out; omega))
    clear h1 ho1 hp1
    go_upto_region 28 with fail
    refine code_gen (fun W2 => Blk W2 (w.heap.size + 1) 30 #[.string ⟨#[]⟩, .int .i64 0, .string ⟨#[]⟩, .int .i64 0] ∧ Blk W2 (w.heap.size + 2) 39 #[.int .i64 0, .int .i64 0, .int .i64 0] ∧ Blk W2 (w.heap.size + 3) 30 #[.string ⟨#[]⟩, .int .i64 0, .string ⟨#[]⟩, .int .i64 0] ∧ Blk W2 (w.heap.size + 4) 39 #[.int .i64 0, .int .i64 0, .int .i64 0] ∧ Off [w.heap.size + 3, w.heap.size + 4] w1 W2) ⟨hb1, hb2, hb3, hb4, Off.refl _ _⟩ ?_
    clear hb1 hb2 hb3 hb4
    rintro W2 ⟨hb1, hb2, hb3, hb4, ho2⟩
    have hc1 := hb1.cell
    have hf1 := hb1.frozen
    have hl1 := hb1.lt
    have HC1 := Lib.hid hb1
    have hc2 := hb2.cell
    have hf2 := hb2.frozen
    have hl2 := hb2.lt
    have HC2 := Lib.hid hb2
    have hc3 := hb3.cell
    have hc4 := hb4.cell
    have HO2 := Lib.hid ho2
    clear hb1 hb2 hb3 hb4 ho2
    go_region
    obtain ⟨k1, k2, k3⟩ := put7 (a := .string ⟨#[]⟩) (b := .int .i64 0) (c := .string ⟨#[]⟩) (d := .int .i64 0) (x := .int .i64 0) (y := .int .i64 0) (z := .int .i64 0) HC1.out HC2.out
    have he1 := k1.drew.cell
    have he2 := k2.drew.cell
    have K3 := Lib.hid k3.drew
    clear k1 k2 k3 hc1 hf1 hl1 hc2 hf2 hl2 hc3 hc4
    go_wp2_with fail
    refine bodyPost_ret (v := .tuple #[.int .i64 er, .agg #[.string ⟨#[]⟩, .int .i64 0, .string ⟨#[]⟩, .int .i64 0], .agg #[.int .i64 0, .int .i64 0, .int .i64 0], .slice none 0 0]) ?_ rfl ?_
    · have hres : Tryz.f35.results = #[.tmp 4, .cell 5 30, .cell 6 39, .tmp 7] := rfl
      simp only [results, hres]
      go_simp
    · rw [HE.out]
      exact ⟨⟨_, rfl⟩, (DSTo.own H.out HOF.out HT.out ((HO2.out.mono (fun _ _ h => by simp at h ⊢; omega)).trans (K3.out.mono (fun _ _ h => by simp at h ⊢; omega)) (fun _ _ h => h)) HKK.out).le (by omega)⟩
  by_cases hk5 : what = 5
  · subst hk5
    have HE := Lib.hid (show askD D ⟨5, path, q, data, mode⟩ = (D.replace path q).2 from rfl)
    have hop := Lib.hid (dreplace_call p n G D path q W HDS.out (by have := HN.out; omega) HS.out.1 HS.out.2)
    clear HG
    obtain ⟨er, her⟩ : ∃ er, (D.replace path q).1 = er := ⟨_, rfl⟩
    rw [her] at hop
    clear her
    go_wp2_with fail
    refine hop.out.mono ?_
    rintro e w1 ⟨rfl, hT⟩
    have HT := Lib.hid hT
    clear hT hop
    obtain ⟨G1, h1, ho1, hp1⟩ := HT.out
    have hb1 := HB1.out.off ho1 (HNO.out _ (by omega) (by have := HSZ.out; omega))
    have hb2 := HB2.out.off ho1 (HNO.out _ (by omega) (by have := HSZ.out; omega))
    have hb3 := HB3.out.off ho1 (HNO.out _ (by omega) (by have := HSZ.out; omega))
    have hb4 := HB4.out.off ho1 (HNO.out _ (by omega) (by have := HSZ.out; omega))
    clear h1 ho1 hp1
    go_upto_region 28 with fail
    refine code_gen (fun W2 => Blk W2 (w.heap.size + 1) 30 #[.string ⟨#[]⟩, .int .i64 0, .string ⟨#[]⟩, .int .i64 0] ∧ Blk W2 (w.heap.size + 2) 39 #[.int .i64 0, .int .i64 0, .int .i64 0] ∧ Blk W2 (w.heap.size + 3) 30 #[.string ⟨#[]⟩, .int .i64 0, .string ⟨#[]⟩, .int .i64 0] ∧ Blk W2 (w.heap.size + 4) 39 #[.int .i64 0, .int .i64 0, .int .i64 0] ∧ Off [w.heap.size + 3, w.heap.size + 4] w1 W2) ⟨hb1, hb2, hb3, hb4, Off.refl _ _⟩ ?_
    clear hb1 hb2 hb3 hb4
    rintro W2 ⟨hb1, hb2, hb3, hb4, ho2⟩
    have hc1 := hb1.cell
    have hf1 := hb1.frozen
    have hl1 := hb1.lt
    have HC1 := Lib.hid hb1
    have hc2 := hb2.cell
    have hf2 := hb2.frozen
    have hl2 := hb2.lt
    have HC2 := Lib.hid hb2
    have hc3 := hb3.cell
    have hc4 := hb4.cell
    have HO2 := Lib.hid ho2
    clear hb1 hb2 hb3 hb4 ho2
    go_region
    obtain ⟨k1, k2, k3⟩ := put7 (a := .string ⟨#[]⟩) (b := .int .i64 0) (c := .string ⟨#[]⟩) (d := .int .i64 0) (x := .int .i64 0) (y := .int .i64 0) (z := .int .i64 0) HC1.out HC2.out
    have he1 := k1.drew.cell
    have he2 := k2.drew.cell
    have K3 := Lib.hid k3.drew
    clear k1 k2 k3 hc1 hf1 hl1 hc2 hf2 hl2 hc3 hc4
    go_wp2_with fail
    refine bodyPost_ret (v := .tuple #[.int .i64 er, .agg #[.string ⟨#[]⟩, .int .i64 0, .string ⟨#[]⟩, .int .i64 0], .agg #[.int .i64 0, .int .i64 0, .int .i64 0], .slice none 0 0]) ?_ rfl ?_
    · have hres : Tryz.f35.results = #[.tmp 4, .cell 5 30, .cell 6 39, .tmp 7] := rfl
      simp only [results, hres]
      go_simp
    · rw [HE.out]
      exact ⟨⟨_, rfl⟩, (DSTo.own H.out HOF.out HT.out ((HO2.out.mono (fun _ _ h => by simp at h ⊢; omega)).trans (K3.out.mono (fun _ _ h => by simp at h ⊢; omega)) (fun _ _ h => h)) HKK.out).le (by omega)⟩
  by_cases hk6 : what = 6
  · subst hk6
    have HE := Lib.hid (show askD D ⟨6, path, q, data, mode⟩ = (D.sync path).2 from rfl)
    have hop := Lib.hid (dsync_call p n G D path W HDS.out (by have := HN.out; omega) HS.out.1)
    clear HG
    obtain ⟨er, her⟩ : ∃ er, (D.sync path).1 = er := ⟨_, rfl⟩
    rw [her] at hop
    clear her
    go_wp2_with fail
    refine hop.out.mono ?_
    rintro e w1 ⟨rfl, hT⟩
    have HT := Lib.hid hT
    clear hT hop
    obtain ⟨G1, h1, ho1, hp1⟩ := HT.out
    have hb1 := HB1.out.off ho1 (HNO.out _ (by omega) (by have := HSZ.out; omega))
    have hb2 := HB2.out.off ho1 (HNO.out _ (by omega) (by have := HSZ.out; omega))
    have hb3 := HB3.out.off ho1 (HNO.out _ (by omega) (by have := HSZ.out; omega))
    have hb4 := HB4.out.off ho1 (HNO.out _ (by omega) (by have := HSZ.out; omega))
    clear h1 ho1 hp1
    go_upto_region 28 with fail
    refine code_gen (fun W2 => Blk W2 (w.heap.size + 1) 30 #[.string ⟨#[]⟩, .int .i64 0, .string ⟨#[]⟩, .int .i64 0] ∧ Blk W2 (w.heap.size + 2) 39 #[.int .i64 0, .int .i64 0, .int .i64 0] ∧ Blk W2 (w.heap.size + 3) 30 #[.string ⟨#[]⟩, .int .i64 0, .string ⟨#[]⟩, .int .i64 0] ∧ Blk W2 (w.heap.size + 4) 39 #[.int .i64 0, .int .i64 0, .int .i64 0] ∧ Off [w.heap.size + 3, w.heap.size + 4] w1 W2) ⟨hb1, hb2, hb3, hb4, Off.refl _ _⟩ ?_
    clear hb1 hb2 hb3 hb4
    rintro W2 ⟨hb1, hb2, hb3, hb4, ho2⟩
    have hc1 := hb1.cell
    have hf1 := hb1.frozen
    have hl1 := hb1.lt
    have HC1 := Lib.hid hb1
    have hc2 := hb2.cell
    have hf2 := hb2.frozen
    have hl2 := hb2.lt
    have HC2 := Lib.hid hb2
    have hc3 := hb3.cell
    have hc4 := hb4.cell
    have HO2 := Lib.hid ho2
    clear hb1 hb2 hb3 hb4 ho2
    go_region
    obtain ⟨k1, k2, k3⟩ := put7 (a := .string ⟨#[]⟩) (b := .int .i64 0) (c := .string ⟨#[]⟩) (d := .int .i64 0) (x := .int .i64 0) (y := .int .i64 0) (z := .int .i64 0) HC1.out HC2.out
    have he1 := k1.drew.cell
    have he2 := k2.drew.cell
    have K3 := Lib.hid k3.drew
    clear k1 k2 k3 hc1 hf1 hl1 hc2 hf2 hl2 hc3 hc4
    go_wp2_with fail
    refine bodyPost_ret (v := .tuple #[.int .i64 er, .agg #[.string ⟨#[]⟩, .int .i64 0, .string ⟨#[]⟩, .int .i64 0], .agg #[.int .i64 0, .int .i64 0, .int .i64 0], .slice none 0 0]) ?_ rfl ?_
    · have hres : Tryz.f35.results = #[.tmp 4, .cell 5 30, .cell 6 39, .tmp 7] := rfl
      simp only [results, hres]
      go_simp
    · rw [HE.out]
      exact ⟨⟨_, rfl⟩, (DSTo.own H.out HOF.out HT.out ((HO2.out.mono (fun _ _ h => by simp at h ⊢; omega)).trans (K3.out.mono (fun _ _ h => by simp at h ⊢; omega)) (fun _ _ h => h)) HKK.out).le (by omega)⟩
  by_cases hk7 : what = 7
  · subst hk7
    have HE := Lib.hid (show askD D ⟨7, path, q, data, mode⟩ = D.flush.2 from rfl)
    have hop := Lib.hid (flush_call p n G D W HDS.out (by have := HN.out; omega))
    clear HG
    obtain ⟨er, her⟩ : ∃ er, D.flush.1 = er := ⟨_, rfl⟩
    rw [her] at hop
    clear her
    go_wp2_with fail
    refine hop.out.mono ?_
    rintro e w1 ⟨rfl, hT⟩
    have HT := Lib.hid hT
    clear hT hop
    obtain ⟨G1, h1, ho1, hp1⟩ := HT.out
    have hb1 := HB1.out.off ho1 (HNO.out _ (by omega) (by have := HSZ.out; omega))
    have hb2 := HB2.out.off ho1 (HNO.out _ (by omega) (by have := HSZ.out; omega))
    have hb3 := HB3.out.off ho1 (HNO.out _ (by omega) (by have := HSZ.out; omega))
    have hb4 := HB4.out.off ho1 (HNO.out _ (by omega) (by have := HSZ.out; omega))
    clear h1 ho1 hp1
    go_upto_region 28 with fail
    refine code_gen (fun W2 => Blk W2 (w.heap.size + 1) 30 #[.string ⟨#[]⟩, .int .i64 0, .string ⟨#[]⟩, .int .i64 0] ∧ Blk W2 (w.heap.size + 2) 39 #[.int .i64 0, .int .i64 0, .int .i64 0] ∧ Blk W2 (w.heap.size + 3) 30 #[.string ⟨#[]⟩, .int .i64 0, .string ⟨#[]⟩, .int .i64 0] ∧ Blk W2 (w.heap.size + 4) 39 #[.int .i64 0, .int .i64 0, .int .i64 0] ∧ Off [w.heap.size + 3, w.heap.size + 4] w1 W2) ⟨hb1, hb2, hb3, hb4, Off.refl _ _⟩ ?_
    clear hb1 hb2 hb3 hb4
    rintro W2 ⟨hb1, hb2, hb3, hb4, ho2⟩
    have hc1 := hb1.cell
    have hf1 := hb1.frozen
    have hl1 := hb1.lt
    have HC1 := Lib.hid hb1
    have hc2 := hb2.cell
    have hf2 := hb2.frozen
    have hl2 := hb2.lt
    have HC2 := Lib.hid hb2
    have hc3 := hb3.cell
    have hc4 := hb4.cell
    have HO2 := Lib.hid ho2
    clear hb1 hb2 hb3 hb4 ho2
    go_region
    obtain ⟨k1, k2, k3⟩ := put7 (a := .string ⟨#[]⟩) (b := .int .i64 0) (c := .string ⟨#[]⟩) (d := .int .i64 0) (x := .int .i64 0) (y := .int .i64 0) (z := .int .i64 0) HC1.out HC2.out
    have he1 := k1.drew.cell
    have he2 := k2.drew.cell
    have K3 := Lib.hid k3.drew
    clear k1 k2 k3 hc1 hf1 hl1 hc2 hf2 hl2 hc3 hc4
    go_wp2_with fail
    refine bodyPost_ret (v := .tuple #[.int .i64 er, .agg #[.string ⟨#[]⟩, .int .i64 0, .string ⟨#[]⟩, .int .i64 0], .agg #[.int .i64 0, .int .i64 0, .int .i64 0], .slice none 0 0]) ?_ rfl ?_
    · have hres : Tryz.f35.results = #[.tmp 4, .cell 5 30, .cell 6 39, .tmp 7] := rfl
      simp only [results, hres]
      go_simp
    · rw [HE.out]
      exact ⟨⟨_, rfl⟩, (DSTo.own H.out HOF.out HT.out ((HO2.out.mono (fun _ _ h => by simp at h ⊢; omega)).trans (K3.out.mono (fun _ _ h => by simp at h ⊢; omega)) (fun _ _ h => h)) HKK.out).le (by omega)⟩
  by_cases hk8 : what = 8
  · subst hk8
    have HE := Lib.hid (show askD D ⟨8, path, q, data, mode⟩ = (D.get path).2 from rfl)
    have hop := Lib.hid (dget_call p n G D path W HDS.out (by have := HN.out; omega) HS.out.1)
    clear HG
    unfold getVal at hop
    obtain ⟨⟨ge, nd, gi, gs, gt⟩, hgv⟩ : ∃ g, (D.get path).1 = g := ⟨_, rfl⟩
    rw [hgv] at hop
    clear hgv
    go_wp2_with fail
    refine hop.out.mono ?_
    rintro e w1 ⟨rfl, hT⟩
    have HT := Lib.hid hT
    clear hT hop
    obtain ⟨G1, h1, ho1, hp1⟩ := HT.out
    have hb1 := HB1.out.off ho1 (HNO.out _ (by omega) (by have := HSZ.out; omega))
    have hb2 := HB2.out.off ho1 (HNO.out _ (by omega) (by have := HSZ.out; omega))
    have hb3 := HB3.out.off ho1 (HNO.out _ (by omega) (by have := HSZ.out; omega))
    have hb4 := HB4.out.off ho1 (HNO.out _ (by omega) (by have := HSZ.out; omega))
    clear h1 ho1 hp1
    have hc3 := hb3.cell
    have hf3 := hb3.frozen
    have hl3 := hb3.lt
    have hc4 := hb4.cell
    have hf4 := hb4.frozen
    have hl4 := hb4.lt
    go_upto_region 28 with fail
    obtain ⟨k1, k2, k3⟩ := put7 (a := .string nd.path) (b := .int .i64 nd.kind) (c := .string nd.data) (d := .int .i64 nd.mode) (x := .int .i64 gi) (y := .int .i64 gs) (z := .int .i64 gt) hb3 hb4
    have j1 := hb1.off k3 (by simp)
    have j2 := hb2.off k3 (by simp)
    refine code_gen (fun W2 => Blk W2 (w.heap.size + 1) 30 #[.string ⟨#[]⟩, .int .i64 0, .string ⟨#[]⟩, .int .i64 0] ∧ Blk W2 (w.heap.size + 2) 39 #[.int .i64 0, .int .i64 0, .int .i64 0] ∧ Blk W2 (w.heap.size + 3) 30 #[.string nd.path, .int .i64 nd.kind, .string nd.data, .int .i64 nd.mode] ∧ Blk W2 (w.heap.size + 4) 39 #[.int .i64 gi, .int .i64 gs, .int .i64 gt] ∧ Off [w.heap.size + 3, w.heap.size + 4] w1 W2) ⟨j1, j2, k1, k2, k3⟩ ?_
    clear hc3 hf3 hl3 hc4 hf4 hl4 k1 k2 k3 j1 j2
    clear hb1 hb2 hb3 hb4
    rintro W2 ⟨hb1, hb2, hb3, hb4, ho2⟩
    have hc1 := hb1.cell
    have hf1 := hb1.frozen
    have hl1 := hb1.lt
    have HC1 := Lib.hid hb1
    have hc2 := hb2.cell
    have hf2 := hb2.frozen
    have hl2 := hb2.lt
    have HC2 := Lib.hid hb2
    have hc3 := hb3.cell
    have hc4 := hb4.cell
    have HO2 := Lib.hid ho2
    clear hb1 hb2 hb3 hb4 ho2
    go_region
    obtain ⟨k1, k2, k3⟩ := put7 (a := .string nd.path) (b := .int .i64 nd.kind) (c := .string nd.data) (d := .int .i64 nd.mode) (x := .int .i64 gi) (y := .int .i64 gs) (z := .int .i64 gt) HC1.out HC2.out
    have he1 := k1.drew.cell
    have he2 := k2.drew.cell
    have K3 := Lib.hid k3.drew
    clear k1 k2 k3 hc1 hf1 hl1 hc2 hf2 hl2 hc3 hc4
    go_wp2_with fail
    refine bodyPost_ret (v := .tuple #[.int .i64 ge, .agg #[.string nd.path, .int .i64 nd.kind, .string nd.data, .int .i64 nd.mode], .agg #[.int .i64 gi, .int .i64 gs, .int .i64 gt], .slice none 0 0]) ?_ rfl ?_
    · have hres : Tryz.f35.results = #[.tmp 4, .cell 5 30, .cell 6 39, .tmp 7] := rfl
      simp only [results, hres]
      go_simp
    · rw [HE.out]
      exact ⟨⟨_, rfl⟩, (DSTo.own H.out HOF.out HT.out ((HO2.out.mono (fun _ _ h => by simp at h ⊢; omega)).trans (K3.out.mono (fun _ _ h => by simp at h ⊢; omega)) (fun _ _ h => h)) HKK.out).le (by omega)⟩
  by_cases hk9 : what = 9
  · subst hk9
    have HE := Lib.hid (show askD D ⟨9, path, q, data, mode⟩ = (D.namesC path).2 from rfl)
    have hop := Lib.hid (dnames_call p n G D path W HDS.out (by have := HN.out; omega) HS.out.1 HFF.out)
    clear HG
    obtain ⟨ne, hne⟩ : ∃ ne, (D.namesC path).1.2 = ne := ⟨_, rfl⟩
    rw [hne] at hop
    clear hne
    go_wp2_with fail
    refine hop.out.mono ?_
    rintro e w1 ⟨v, wm, rfl, -, hTm, hom⟩
    have hT := hTm.off hom
    clear hTm hom
    have HT := Lib.hid hT
    clear hT hop
    obtain ⟨G1, h1, ho1, hp1⟩ := HT.out
    have hb1 := HB1.out.off ho1 (HNO.out _ (by omega) (by have := HSZ.out; omega))
    have hb2 := HB2.out.off ho1 (HNO.out _ (by omega) (by have := HSZ.out; omega))
    have hb3 := HB3.out.off ho1 (HNO.out _ (by omega) (by have := HSZ.out; omega))
    have hb4 := HB4.out.off ho1 (HNO.out _ (by omega) (by have := HSZ.out; omega))
    clear h1 ho1 hp1
    go_upto_region 28 with fail
    refine code_gen (fun W2 => Blk W2 (w.heap.size + 1) 30 #[.string ⟨#[]⟩, .int .i64 0, .string ⟨#[]⟩, .int .i64 0] ∧ Blk W2 (w.heap.size + 2) 39 #[.int .i64 0, .int .i64 0, .int .i64 0] ∧ Blk W2 (w.heap.size + 3) 30 #[.string ⟨#[]⟩, .int .i64 0, .string ⟨#[]⟩, .int .i64 0] ∧ Blk W2 (w.heap.size + 4) 39 #[.int .i64 0, .int .i64 0, .int .i64 0] ∧ Off [w.heap.size + 3, w.heap.size + 4] w1 W2) ⟨hb1, hb2, hb3, hb4, Off.refl _ _⟩ ?_
    clear hb1 hb2 hb3 hb4
    rintro W2 ⟨hb1, hb2, hb3, hb4, ho2⟩
    have hc1 := hb1.cell
    have hf1 := hb1.frozen
    have hl1 := hb1.lt
    have HC1 := Lib.hid hb1
    have hc2 := hb2.cell
    have hf2 := hb2.frozen
    have hl2 := hb2.lt
    have HC2 := Lib.hid hb2
    have hc3 := hb3.cell
    have hc4 := hb4.cell
    have HO2 := Lib.hid ho2
    clear hb1 hb2 hb3 hb4 ho2
    go_region
    obtain ⟨k1, k2, k3⟩ := put7 (a := .string ⟨#[]⟩) (b := .int .i64 0) (c := .string ⟨#[]⟩) (d := .int .i64 0) (x := .int .i64 0) (y := .int .i64 0) (z := .int .i64 0) HC1.out HC2.out
    have he1 := k1.drew.cell
    have he2 := k2.drew.cell
    have K3 := Lib.hid k3.drew
    clear k1 k2 k3 hc1 hf1 hl1 hc2 hf2 hl2 hc3 hc4
    go_wp2_with fail
    refine bodyPost_ret (v := .tuple #[.int .i64 ne, .agg #[.string ⟨#[]⟩, .int .i64 0, .string ⟨#[]⟩, .int .i64 0], .agg #[.int .i64 0, .int .i64 0, .int .i64 0], v]) ?_ rfl ?_
    · have hres : Tryz.f35.results = #[.tmp 4, .cell 5 30, .cell 6 39, .tmp 7] := rfl
      simp only [results, hres]
      go_simp
    · rw [HE.out]
      exact ⟨⟨_, rfl⟩, (DSTo.own H.out HOF.out HT.out ((HO2.out.mono (fun _ _ h => by simp at h ⊢; omega)).trans (K3.out.mono (fun _ _ h => by simp at h ⊢; omega)) (fun _ _ h => h)) HKK.out).le (by omega)⟩
  by_cases hk10 : what = 10
  · subst hk10
    have HE := Lib.hid (show askD D ⟨10, path, q, data, mode⟩ = D.boot [] from rfl)
    have hop := Lib.hid (dboot_call p n G D none [] 0 0 W HDS.out (FRow.nil _ _) rfl (by decide) (fun _ => rfl))
    clear HG
    go_wp2_with fail
    refine hop.out.mono ?_
    rintro e w1 ⟨rfl, hT⟩
    have HT := Lib.hid hT
    clear hT hop
    obtain ⟨G1, h1, ho1, hp1⟩ := HT.out
    have hb1 := HB1.out.off ho1 (HNO.out _ (by omega) (by have := HSZ.out; omega))
    have hb2 := HB2.out.off ho1 (HNO.out _ (by omega) (by have := HSZ.out; omega))
    have hb3 := HB3.out.off ho1 (HNO.out _ (by omega) (by have := HSZ.out; omega))
    have hb4 := HB4.out.off ho1 (HNO.out _ (by omega) (by have := HSZ.out; omega))
    clear h1 ho1 hp1
    go_upto_region 28 with fail
    refine code_gen (fun W2 => Blk W2 (w.heap.size + 1) 30 #[.string ⟨#[]⟩, .int .i64 0, .string ⟨#[]⟩, .int .i64 0] ∧ Blk W2 (w.heap.size + 2) 39 #[.int .i64 0, .int .i64 0, .int .i64 0] ∧ Blk W2 (w.heap.size + 3) 30 #[.string ⟨#[]⟩, .int .i64 0, .string ⟨#[]⟩, .int .i64 0] ∧ Blk W2 (w.heap.size + 4) 39 #[.int .i64 0, .int .i64 0, .int .i64 0] ∧ Off [w.heap.size + 3, w.heap.size + 4] w1 W2) ⟨hb1, hb2, hb3, hb4, Off.refl _ _⟩ ?_
    clear hb1 hb2 hb3 hb4
    rintro W2 ⟨hb1, hb2, hb3, hb4, ho2⟩
    have hc1 := hb1.cell
    have hf1 := hb1.frozen
    have hl1 := hb1.lt
    have HC1 := Lib.hid hb1
    have hc2 := hb2.cell
    have hf2 := hb2.frozen
    have hl2 := hb2.lt
    have HC2 := Lib.hid hb2
    have hc3 := hb3.cell
    have hc4 := hb4.cell
    have HO2 := Lib.hid ho2
    clear hb1 hb2 hb3 hb4 ho2
    go_region
    obtain ⟨k1, k2, k3⟩ := put7 (a := .string ⟨#[]⟩) (b := .int .i64 0) (c := .string ⟨#[]⟩) (d := .int .i64 0) (x := .int .i64 0) (y := .int .i64 0) (z := .int .i64 0) HC1.out HC2.out
    have he1 := k1.drew.cell
    have he2 := k2.drew.cell
    have K3 := Lib.hid k3.drew
    clear k1 k2 k3 hc1 hf1 hl1 hc2 hf2 hl2 hc3 hc4
    go_wp2_with fail
    refine bodyPost_ret (v := .tuple #[.int .i64 0, .agg #[.string ⟨#[]⟩, .int .i64 0, .string ⟨#[]⟩, .int .i64 0], .agg #[.int .i64 0, .int .i64 0, .int .i64 0], .slice none 0 0]) ?_ rfl ?_
    · have hres : Tryz.f35.results = #[.tmp 4, .cell 5 30, .cell 6 39, .tmp 7] := rfl
      simp only [results, hres]
      go_simp
    · rw [HE.out]
      exact ⟨⟨_, rfl⟩, (DSTo.own H.out HOF.out HT.out ((HO2.out.mono (fun _ _ h => by simp at h ⊢; omega)).trans (K3.out.mono (fun _ _ h => by simp at h ⊢; omega)) (fun _ _ h => h)) HKK.out).le (by omega)⟩
  have HE := Lib.hid (show askD D ⟨what, path, q, data, mode⟩ = D by rw [HG.out]; simp only [if_neg hk0, if_neg hk1, if_neg hk2, if_neg hk3, if_neg hk4, if_neg hk5, if_neg hk6, if_neg hk7, if_neg hk8, if_neg hk9, if_neg hk10])
  have HT := Lib.hid (HDS.out.refl)
  clear HG
  have hb1 := HB1.out
  have hb2 := HB2.out
  have hb3 := HB3.out
  have hb4 := HB4.out
  go_upto_region 28 with fail
  refine code_gen (fun W2 => Blk W2 (w.heap.size + 1) 30 #[.string ⟨#[]⟩, .int .i64 0, .string ⟨#[]⟩, .int .i64 0] ∧ Blk W2 (w.heap.size + 2) 39 #[.int .i64 0, .int .i64 0, .int .i64 0] ∧ Blk W2 (w.heap.size + 3) 30 #[.string ⟨#[]⟩, .int .i64 0, .string ⟨#[]⟩, .int .i64 0] ∧ Blk W2 (w.heap.size + 4) 39 #[.int .i64 0, .int .i64 0, .int .i64 0] ∧ Off [w.heap.size + 3, w.heap.size + 4] W W2) ⟨hb1, hb2, hb3, hb4, Off.refl _ _⟩ ?_
  clear hb1 hb2 hb3 hb4
  rintro W2 ⟨hb1, hb2, hb3, hb4, ho2⟩
  have hc1 := hb1.cell
  have hf1 := hb1.frozen
  have hl1 := hb1.lt
  have HC1 := Lib.hid hb1
  have hc2 := hb2.cell
  have hf2 := hb2.frozen
  have hl2 := hb2.lt
  have HC2 := Lib.hid hb2
  have hc3 := hb3.cell
  have hc4 := hb4.cell
  have HO2 := Lib.hid ho2
  clear hb1 hb2 hb3 hb4 ho2
  go_region
  obtain ⟨k1, k2, k3⟩ := put7 (a := .string ⟨#[]⟩) (b := .int .i64 0) (c := .string ⟨#[]⟩) (d := .int .i64 0) (x := .int .i64 0) (y := .int .i64 0) (z := .int .i64 0) HC1.out HC2.out
  have he1 := k1.drew.cell
  have he2 := k2.drew.cell
  have K3 := Lib.hid k3.drew
  clear k1 k2 k3 hc1 hf1 hl1 hc2 hf2 hl2 hc3 hc4
  go_wp2_with fail
  refine bodyPost_ret (v := .tuple #[.int .i64 0, .agg #[.string ⟨#[]⟩, .int .i64 0, .string ⟨#[]⟩, .int .i64 0], .agg #[.int .i64 0, .int .i64 0, .int .i64 0], .slice none 0 0]) ?_ rfl ?_
  · have hres : Tryz.f35.results = #[.tmp 4, .cell 5 30, .cell 6 39, .tmp 7] := rfl
    simp only [results, hres]
    go_simp
  · rw [HE.out]
    exact ⟨⟨_, rfl⟩, (DSTo.own H.out HOF.out HT.out ((HO2.out.mono (fun _ _ h => by simp at h ⊢; omega)).trans (K3.out.mono (fun _ _ h => by simp at h ⊢; omega)) (fun _ _ h => h)) HKK.out).le (by omega)⟩
end Go.Proofs.YtgcfkljooabjjaaGreatDoor

/- No call makes an inode's data over-long: the plain law. Conditions: none beyond what each lemma states. -/
namespace Go.Proofs.YtgcfkljooabjjaaGreatDoor
open Go.RowKit Go.Op Go.Maps

theorem Light.call {D : PDisk} (h : Light D) (c p q : ByteArray) (k : PDisk → Bool → Int × PDisk) (hk : ∀ E full, Light E → Light (k E full).2) : Light (D.call c p q k).2 := by
  have h1 := h.step c p q
  unfold PDisk.call
  generalize D.step c p q = st at h1
  obtain ⟨full, e, E⟩ := st
  dsimp only at h1 ⊢
  split
  · exact h1
  · exact hk E full h1
theorem Light.same {D E : PDisk} (h : Light D) (e : E.inos = D.inos) : Light E := fun m hm => h m (by rw [← e]; exact hm)
theorem Light.lay {D : PDisk} (h : Light D) (p : ByteArray) (n : Node) (full : Bool) (l : List (Bool × Int)) (hn : n.data.size ≤ maxLen) : Light (D.lay p n full l).2 := by
  unfold PDisk.lay
  dsimp only
  split
  · exact h
  · intro m hm
    rcases List.mem_append.1 (show m ∈ D.inos ++ [⟨n, D.clock, decide (n.kind = 1)⟩] from hm) with hm | hm
    · exact h m hm
    · simp at hm; subst hm; exact hn
theorem Light.set {D : PDisk} (h : Light D) (i : Nat) (x : Ino) (hx : x.node.data.size ≤ maxLen) : Light { D with inos := D.inos.set i x } := fun m hm => by
  rcases List.mem_or_eq_of_mem_set (show m ∈ D.inos.set i x from hm) with hm | rfl
  · exact h m hm
  · exact hx
theorem Light.at_ {D : PDisk} (h : Light D) {p : ByteArray} {m : Ino} (hm : D.at_ p = some m) : m.node.data.size ≤ maxLen := by
  unfold PDisk.at_ PDisk.inode at hm
  split at hm
  · cases hm
  · exact h m (List.mem_of_getElem? hm)
theorem Light.ask {D : PDisk} (h : Light D) (c : CallP) (hd : c.data.size ≤ maxLen) (ht : c.to_.size ≤ maxLen) : Light (askD D c) := by
  unfold askD
  split
  · refine h.call _ _ _ _ fun E full hE => ?_
    unfold PDisk.write_
    cases hat : E.at_ c.path with
    | none => exact hE.lay _ _ _ _ hd
    | some o =>
      dsimp only
      split
      · exact hE
      · exact Light.set hE _ (⟨⟨⟨#[]⟩, 1, c.data, c.mode⟩, E.clock, true⟩ : Ino) hd
  split
  · exact h.call _ _ _ _ fun E full hE => hE.lay _ _ _ _ (by decide)
  split
  · exact h.call _ _ _ _ fun E full hE => hE.lay _ _ _ _ ht
  split
  · refine h.call _ _ _ _ fun E full hE => ?_
    unfold PDisk.remove_
    dsimp only
    split
    · exact hE
    · exact hE.same rfl
  split
  · refine h.call _ _ _ _ fun E full hE => ?_
    unfold PDisk.move_
    dsimp only
    split
    · exact hE
    · split
      · exact hE
      · exact hE.same rfl
  split
  · refine h.call _ _ _ _ fun E full hE => ?_
    unfold PDisk.replace_
    dsimp only
    split
    · exact hE
    · exact hE.same rfl
  split
  · refine h.call _ _ _ _ fun E full hE => ?_
    unfold PDisk.sync_
    dsimp only
    split
    · exact hE
    · split
      · exact hE
      · rename_i m hm
        refine hE.set _ _ ?_
        have := hE.at_ hm
        exact this
  split
  · exact h.call _ _ _ _ fun E full hE => hE.same rfl
  split
  · have h1 := h.step ⟨#[71, 101, 116]⟩ c.path ⟨#[]⟩
    unfold PDisk.get
    generalize D.step ⟨#[71, 101, 116]⟩ c.path ⟨#[]⟩ = st at h1
    obtain ⟨full, e, E⟩ := st
    dsimp only at h1 ⊢
    split <;> exact h1
  split
  · have h1 := h.step ⟨#[78, 97, 109, 101, 115]⟩ c.path ⟨#[]⟩
    unfold PDisk.namesC
    generalize D.step ⟨#[78, 97, 109, 101, 115]⟩ c.path ⟨#[]⟩ = st at h1
    obtain ⟨full, e, E⟩ := st
    dsimp only at h1 ⊢
    split <;> exact h1
  split
  · exact h.same rfl
  · exact h
/-- a call of ask in a run: what was made since the disk's last call is kept -/
theorem run_ask {w0 wr w : World} {p n : Nat} {D : PDisk} (h : Run w0 wr p D n) (hof : Off [] wr w) (hn : n ≤ 80000) (hF : Light D) (c : CallP) (hs1 : c.path.size ≤ 9223372036854775807) (hs2 : c.to_.size ≤ 9223372036854775807)
    (hfr : ∀ E, (D.step ⟨#[77, 111, 118, 101]⟩ c.path c.to_).2.2 = E → firstE (E.mvE c.path c.to_) = 0 → Free c.path c.to_ E.names) :
    Calls Tryz.prog 35 #[.pointer (some ⟨p, 0, none⟩), .agg #[.int .i64 c.what, .string c.path, .string c.to_, .string c.data, .int .i64 c.mode]] w fun e w' => (∃ v, e = .returned v) ∧ Run w0 w' p (askD D c) (n + 2) ∧ ∀ (b : Nat) (t : TypeId) (cs : Array Value), wr.heap.size ≤ b → Blk w b t cs → Blk w' b t cs := by
  obtain ⟨G, h1, h2, h3, h4⟩ := h
  refine (ask_on p n G D c w (h1.off hof) hn hF hs1 hs2 hfr).mono fun e w' ⟨he, hT⟩ => ⟨he, Run.next (h2.trans_nil hof) h3 h4 hT, fun b t cs hb hB => ?_⟩
  obtain ⟨G2, -, ho, -⟩ := hT
  refine hB.off ho (fun hm => ?_)
  rcases List.mem_cons.1 hm with rfl | hm
  · have := h1.m.blk.lt; omega
  · have := h1.m.parts.lt hm; omega
end Go.Proofs.YtgcfkljooabjjaaGreatDoor

/- Names whose ancestors are directories: what Move asks follows. Conditions: none beyond what each lemma states. -/
namespace Go.Proofs.YtgcfkljooabjjaaGreatDoor
open Go.RowKit Go.Op Go.Maps

/-- each name is a path, and what stands above it is a directory -/
def TreeL (D : PDisk) (l : NameL) : Prop :=
  ∀ x ∈ l, okPath (str x.1) = true ∧ ∀ q : ByteArray, okPath (str q) = true → within (str x.1) (str q) = true → x.1 ≠ q → ∃ m, D.inode (lookN l q) = some m ∧ m.node.kind = 2
theorem mvP_within {p q x : ByteArray} (hp : okPath (str p) = true) (hq : okPath (str q) = true) (hx : within (str x) (str p) = true) (hk : okPath (str (mvP p q x)) = true) : within (str (mvP p q x)) (str q) = true := by
  have hxk : okPath (str x) = true := by
    unfold within at hx
    simp only [Bool.and_eq_true] at hx
    exact hx.1
  have e : str (x.extract p.size x.size) = (str x).drop (str p).length := by
    rw [str_extract, str_size, ← str_size x]
    exact List.take_of_length_le (by rw [List.length_drop]; exact Nat.le_refl _)
  have e2 : str (mvP p q x) = str q ++ (str x).drop (str p).length := by unfold mvP; rw [str_append, e]
  refine (within_iff hk hq).2 ?_
  rcases (within_iff hxk hp).1 hx with h | ⟨s, h⟩
  · left; rw [e2, h]; simp
  · right; exact ⟨s, by rw [e2, h]; simp⟩
/-- what Move asks: no name is there that a moved one would take -/
theorem TreeL.free {D : PDisk} {n : Nat} (h : TreeL D D.names) (hk : Ok D n) (ha : Apart D.names) {p q : ByteArray} (hp : okPath (str p) = true) (hq : okPath (str q) = true) (ht : D.at_ q = none) : Free p q D.names := fun x hx hw => by
  cases hh : hasN D.names (mvP p q x.1)
  · rfl
  · exfalso
    obtain ⟨y, hy, e⟩ := (hasN_iff _ _).1 hh
    obtain ⟨h1, h2⟩ := h y hy
    by_cases e2 : y.1 = q
    · obtain ⟨m, -, hm⟩ := hk.inode ha hy
      rw [e2, ht] at hm
      cases hm
    · obtain ⟨m, hm, -⟩ := h2 q hq (by rw [e]; exact mvP_within hp hq hw (by rw [← e]; exact h1)) e2
      have h3 : D.at_ q = some m := hm
      rw [ht] at h3
      cases h3
/-- from Move's own errors -/
theorem TreeL.mv {D : PDisk} {n : Nat} (h : TreeL D D.names) (hk : Ok D n) (ha : Apart D.names) {p q : ByteArray} (he : firstE (D.mvE p q) = 0) : Free p q D.names := by
  have h5 : ∀ y ∈ D.mvE p q, y.2 ≠ 0 := by
    intro y hy
    unfold PDisk.mvE at hy
    simp only [List.mem_cons, List.not_mem_nil, or_false] at hy
    rcases hy with rfl | rfl | rfl | rfl | rfl | rfl <;> simp [PDisk.no, PDisk.gone, PDisk.there, PDisk.parentE]
  have k1 := firstE_zero h5 he (PDisk.no p) (by simp [PDisk.mvE])
  have k2 := firstE_zero h5 he (PDisk.no q) (by simp [PDisk.mvE])
  have k3 := firstE_zero h5 he (D.there q) (by simp [PDisk.mvE])
  exact h.free hk ha (by simpa [PDisk.no] using k1) (by simpa [PDisk.no] using k2) (by simpa [PDisk.there] using k3)
end Go.Proofs.YtgcfkljooabjjaaGreatDoor

/- What each call keeps of a disk's names: ancestors are directories. Conditions: none beyond what each lemma states. -/
namespace Go.Proofs.YtgcfkljooabjjaaGreatDoor
open Go.RowKit Go.Op Go.Maps

theorem ok_parts {s : Str} (h : okPath s = true) : ∀ x ∈ parts s, okName x = true := by
  unfold okPath at h
  simp only [Bool.and_eq_true] at h
  exact List.all_eq_true.1 h.2
/-- what stands above a path stands above its parent, or is it -/
theorem anc_parent {p q : Str} (hp : okPath p = true) (hq : okPath q = true) (hw : within p q = true) (hne : p ≠ q) : parent p ≠ [] ∧ (okPath (parent p) = true → within (parent p) q = true) := by
  have hq0 : q ≠ [] := fun e => by subst e; exact absurd hq (by decide)
  unfold within at hw
  rw [hp, hq, decide_eq_false hq0, Bool.true_and, Bool.false_or, Bool.true_and, List.isPrefixOf_iff_prefix] at hw
  obtain ⟨t, ht⟩ := hw
  have ht0 : t ≠ [] := fun e => hne (by subst e; rw [List.append_nil] at ht; exact (parts_inj ht).symm)
  have hd : (parts p).dropLast = parts q ++ t.dropLast := by rw [← ht, List.dropLast_append_of_ne_nil ht0]
  have hpn : parent p ≠ [] := by
    rw [parent_eq hp, hd]
    refine joinP_ne (by simp [parts_ne q]) (fun x hx => okName_ne (ok_parts hp x ?_))
    rw [← hd] at hx
    exact List.dropLast_subset _ hx
  refine ⟨hpn, fun hk => ?_⟩
  unfold within
  rw [hk, hq, decide_eq_false hq0, Bool.true_and, Bool.false_or, Bool.true_and, List.isPrefixOf_iff_prefix, parent_parts hp hpn, hd]
  exact List.prefix_append _ _
/-- directories stay directories -/
def KS (D E : PDisk) : Prop := ∀ i m, D.inode i = some m → m.node.kind = 2 → ∃ m', E.inode i = some m' ∧ m'.node.kind = 2
theorem KS.refl (D : PDisk) : KS D D := fun _ m h k => ⟨m, h, k⟩
theorem KS.of_inos {D E : PDisk} (h : E.inos = D.inos) : KS D E := fun i m hm hk => ⟨m, by unfold PDisk.inode at hm ⊢; rw [h]; exact hm, hk⟩
theorem TreeL.mono {D E : PDisk} {l : NameL} (h : TreeL D l) (hk : KS D E) : TreeL E l := fun x hx =>
  ⟨(h x hx).1, fun q h1 h2 h3 => by
    obtain ⟨m, hm, hk2⟩ := (h x hx).2 q h1 h2 h3
    exact hk _ m hm hk2⟩
theorem KS.crash (D : PDisk) (f : FateP) : KS D (D.crash f) := fun i m hm hk => ⟨PDisk.tear f.torn m, by rw [crash_inode, hm]; rfl, by rw [tear_kind]; exact hk⟩
theorem KS.make (D : PDisk) (n : Node) (t : Int) (b : Bool) : KS D (D.make n t b) := fun i m hm hk => ⟨m, by
  unfold PDisk.inode PDisk.make at *
  split at hm
  · cases hm
  · rename_i h
    rw [if_neg h]
    show (D.inos ++ [_])[i - 1]? = some m
    rw [List.getElem?_append_left (List.getElem?_eq_some_iff.1 hm).1]
    exact hm, hk⟩
structure TreeD (D : PDisk) : Prop where
  names : TreeL D D.names
  safe : TreeL D D.safe
  later : ∀ l ∈ D.later, TreeL D l
theorem TreeD.crash {D : PDisk} (h : TreeD D) (f : FateP) : TreeD (D.crash f) := by
  have hk := KS.crash D f
  have hn : TreeL (D.crash f) (D.crash f).names := by
    rcases crash_names D f with e | e
    · rw [e]; exact h.safe.mono hk
    · exact (h.later _ e).mono hk
  exact ⟨hn, hn, fun l hl => by cases hl⟩
theorem TreeD.of {D E : PDisk} (h : TreeD D) (h1 : E.names = D.names) (h2 : E.safe = D.safe) (h3 : E.later = D.later) (hk : KS D E) : TreeD E :=
  ⟨by rw [h1]; exact h.names.mono hk, by rw [h2]; exact h.safe.mono hk, fun l hl => (h.later l (by rw [← h3]; exact hl)).mono hk⟩
theorem TreeD.step {D : PDisk} (h : TreeD D) (c p q : ByteArray) : TreeD (D.step c p q).2.2 := by
  have ht : TreeD { D with clock := D.clock + 1, trace := D.trace ++ [⟨c, p, q⟩] } := h.of rfl rfl rfl (KS.of_inos rfl)
  unfold PDisk.step
  split
  · exact h
  · dsimp only
    split
    · exact ht
    · split
      · exact ht.crash _
      · split <;> exact ht
/-- a change of names -/
theorem TreeD.change {D : PDisk} {l : NameL} (h : TreeD D) (hl : TreeL D l) : TreeD (D.change l) :=
  ⟨hl.mono (KS.of_inos rfl), h.safe.mono (KS.of_inos rfl), fun x hx => by
    rcases List.mem_append.1 (show x ∈ D.later ++ [l] from hx) with hx | hx
    · exact (h.later x hx).mono (KS.of_inos rfl)
    · simp at hx; subst hx; exact hl.mono (KS.of_inos rfl)⟩
theorem at_of_has {D : PDisk} {n : Nat} (hk : Ok D n) (ha : Apart D.names) {p : ByteArray} (h : D.at_ p = none) : hasN D.names p = false := by
  cases hh : hasN D.names p
  · rfl
  · obtain ⟨x, hx, rfl⟩ := (hasN_iff _ _).1 hh
    obtain ⟨m, -, hm⟩ := hk.inode ha hx
    rw [h] at hm
    cases hm
theorem has_of_at {D : PDisk} {p : ByteArray} {m : Ino} (h : D.at_ p = some m) : hasN D.names p = true := by
  cases hh : hasN D.names p
  · unfold PDisk.at_ PDisk.inode at h
    rw [lookN_of_not hh] at h
    simp at h
  · rfl
/-- what stands above a path whose parent is a directory -/
theorem TreeL.above {D : PDisk} (h : TreeL D D.names) {p q : ByteArray} (hp : okPath (str p) = true) (hd : D.dir (bs (parent (str p))) = true) (hq : okPath (str q) = true) (hw : within (str p) (str q) = true) (hne : p ≠ q) : ∃ m, D.at_ q = some m ∧ m.node.kind = 2 := by
  obtain ⟨h1, h2⟩ := anc_parent hp hq hw (fun e => hne (str_inj e))
  have h3 : bs (parent (str p)) ≠ ⟨#[]⟩ := fun e => h1 (by rw [← str_bs (parent (str p)), e]; rfl)
  unfold PDisk.dir at hd
  rw [decide_eq_false h3, Bool.false_or] at hd
  cases hat : D.at_ (bs (parent (str p))) with
  | none => rw [hat] at hd; cases hd
  | some m =>
    rw [hat] at hd
    have hk : m.node.kind = 2 := by simpa using hd
    obtain ⟨y, hy, e⟩ := (hasN_iff _ _).1 (has_of_at hat)
    obtain ⟨k1, k2⟩ := h y hy
    rw [e, str_bs] at k1 k2
    by_cases e2 : y.1 = q
    · exact ⟨m, by rw [← e2, e]; exact hat, hk⟩
    · obtain ⟨m2, hm2, hk2⟩ := k2 q hq (h2 k1) (fun e3 => e2 (e.trans e3))
      exact ⟨m2, hm2, hk2⟩
theorem TreeL.put {D : PDisk} (h : TreeL D D.names) {p : ByteArray} (i : Nat) (hp : okPath (str p) = true) (hd : D.dir (bs (parent (str p))) = true) (hno : hasN D.names p = false) : TreeL D (putN D.names p i) := fun x hx => by
  have hl : ∀ q, q ≠ p → lookN (putN D.names p i) q = lookN D.names q := fun q e => by rw [lookN_putN, if_neg (fun e2 => e e2.symm)]
  unfold putN at hx
  rw [if_neg (by rw [hno]; decide)] at hx
  rcases List.mem_append.1 hx with hx | hx
  · refine ⟨(h x hx).1, fun q h1 h2 h3 => ?_⟩
    obtain ⟨m, hm, hk⟩ := (h x hx).2 q h1 h2 h3
    refine ⟨m, ?_, hk⟩
    rw [hl q (fun e => by
      subst e
      unfold PDisk.inode at hm
      rw [lookN_of_not hno] at hm
      simp at hm)]
    exact hm
  · simp at hx
    subst hx
    refine ⟨hp, fun q h1 h2 h3 => ?_⟩
    obtain ⟨m, hm, hk⟩ := h.above hp hd h1 h2 h3
    exact ⟨m, by rw [hl q (fun e => h3 e.symm)]; exact hm, hk⟩
theorem TreeD.lay {D : PDisk} {n : Nat} (h : TreeD D) (hk : Ok D n) (ha : Apart D.names) (p : ByteArray) (x : Node) (full : Bool) (l : List (Bool × Int)) (hz : ∀ y ∈ l, y.2 ≠ 0) (h1 : PDisk.no p ∈ l) (h2 : D.parentE p ∈ l) (h3 : D.at_ p = none ∨ D.there p ∈ l) : TreeD (D.lay p x full l).2 := by
  unfold PDisk.lay
  dsimp only
  split
  · exact h
  · rename_i he
    have he : firstE (l ++ [(full || decide (1000 ≤ D.names.length), 71)]) = 0 := by simpa using he
    have hz2 : ∀ y ∈ l ++ [(full || decide (1000 ≤ D.names.length), (71 : Int))], y.2 ≠ 0 := fun y hy => by
      rcases List.mem_append.1 hy with hy | hy
      · exact hz y hy
      · simp at hy; subst hy; simp
    have k1 := firstE_zero hz2 he _ (List.mem_append_left _ h1)
    have k2 := firstE_zero hz2 he _ (List.mem_append_left _ h2)
    have hat : D.at_ p = none := by
      rcases h3 with h3 | h3
      · exact h3
      · have k3 := firstE_zero hz2 he _ (List.mem_append_left _ h3)
        simpa [PDisk.there] using k3
    have hm := KS.make D x D.clock (decide (x.kind = 1))
    exact (h.of (E := D.make x D.clock (decide (x.kind = 1))) rfl rfl rfl hm).change ((h.names.put (D.inos.length + 1) (by simpa [PDisk.no] using k1) (by simpa [PDisk.parentE] using k2) (at_of_has hk ha hat)).mono hm)
theorem TreeD.remove_ {D : PDisk} (h : TreeD D) (p : ByteArray) : TreeD (D.remove_ p).2 := by
  unfold PDisk.remove_
  dsimp only
  split
  · exact h
  · rename_i he
    have he : firstE [PDisk.no p, D.gone p, (D.inside p, 72)] = 0 := by simpa using he
    have k := firstE_zero (by intro y hy; simp only [List.mem_cons, List.not_mem_nil, or_false] at hy; rcases hy with rfl | rfl | rfl <;> simp [PDisk.no, PDisk.gone]) he (D.inside p, 72) (by simp)
    have k : D.inside p = false := k
    refine h.change fun x hx => ?_
    obtain ⟨hx1, hx2⟩ := List.mem_filter.1 hx
    refine ⟨(h.names x hx1).1, fun q h1 h2 h3 => ?_⟩
    obtain ⟨m, hm, hk⟩ := (h.names x hx1).2 q h1 h2 h3
    refine ⟨m, ?_, hk⟩
    rw [lookN_delN, if_neg (fun e => by
      subst e
      have := List.any_eq_false.1 k x hx1
      unfold insP at this
      rw [h2, decide_eq_false h3] at this
      simp at this)]
    exact hm
end Go.Proofs.YtgcfkljooabjjaaGreatDoor

/- What each call keeps of a disk's names: Write, Sync, Replace. Conditions: none beyond what each lemma states. -/
namespace Go.Proofs.YtgcfkljooabjjaaGreatDoor
open Go.RowKit Go.Op Go.Maps

theorem KS.set {D : PDisk} {i : Nat} {x : Ino} (h : ∀ o, D.inos[i]? = some o → o.node.kind = 2 → x.node.kind = 2) : KS D { D with inos := D.inos.set i x } := fun j m hm hk => by
  unfold PDisk.inode at hm ⊢
  split at hm
  · cases hm
  · rename_i hj
    rw [if_neg hj]
    show ∃ m', (D.inos.set i x)[j - 1]? = some m' ∧ m'.node.kind = 2
    by_cases e : i = j - 1
    · subst e
      exact ⟨x, by rw [List.getElem?_set_self (List.getElem?_eq_some_iff.1 hm).1], h m hm hk⟩
    · exact ⟨m, by rw [List.getElem?_set_ne e]; exact hm, hk⟩
theorem at_ino {D : PDisk} {p : ByteArray} {o : Ino} (h : D.at_ p = some o) : D.inos[lookN D.names p - 1]? = some o := by
  unfold PDisk.at_ PDisk.inode at h
  split at h
  · cases h
  · exact h
theorem TreeD.write_ {D : PDisk} {n : Nat} (h : TreeD D) (hk : Ok D n) (ha : Apart D.names) (full : Bool) (p data : ByteArray) (mode : Int) : TreeD (D.write_ full p data mode).2 := by
  unfold PDisk.write_
  cases hat : D.at_ p with
  | none =>
    refine h.lay hk ha _ _ _ _ (by intro y hy; simp only [List.mem_cons, List.not_mem_nil, or_false] at hy; rcases hy with rfl | rfl | rfl | rfl <;> simp [PDisk.no, PDisk.parentE]) (by simp) (by simp) (.inl hat)
  | some o =>
    dsimp only
    split
    · exact h
    · rename_i he
      have he : firstE ([PDisk.no p, (decide (65536 < data.size) || decide (mode < 0) || decide (511 < mode), 2), D.parentE p, (!decide (o.node.kind = 1), 73)] ++ [(full, 71)]) = 0 := by simpa using he
      have k := firstE_zero (by intro y hy; simp only [List.cons_append, List.nil_append, List.mem_cons, List.not_mem_nil, or_false] at hy; rcases hy with rfl | rfl | rfl | rfl | rfl <;> simp [PDisk.no, PDisk.parentE]) he (!decide (o.node.kind = 1), 73) (by simp)
      have k : (!decide (o.node.kind = 1)) = false := k
      have k1 : o.node.kind = 1 := by simpa using k
      refine h.of rfl rfl rfl (KS.set fun o2 h2 h3 => ?_)
      rw [at_ino hat] at h2
      cases h2
      rw [k1] at h3
      cases h3
theorem TreeD.sync_ {D : PDisk} (h : TreeD D) (p : ByteArray) : TreeD (D.sync_ p).2 := by
  unfold PDisk.sync_
  dsimp only
  split
  · exact h
  · cases hat : D.at_ p with
    | none => exact h
    | some o =>
      refine h.of rfl rfl rfl (KS.set fun o2 h2 h3 => ?_)
      rw [at_ino hat] at h2
      cases h2
      exact h3
theorem dir_of {D : PDisk} {p : ByteArray} {m : Ino} (h : D.at_ p = some m) (hk : m.node.kind = 2) : D.dir p = true := by
  unfold PDisk.dir
  rw [h]
  simp [hk]
theorem TreeD.replace_ {D : PDisk} (h : TreeD D) (p q : ByteArray) : TreeD (D.replace_ p q).2 := by
  unfold PDisk.replace_
  dsimp only
  split
  · exact h
  · rename_i he
    have he : firstE [PDisk.no p, PDisk.no q, (decide (p = q), 2), D.gone p, (D.dir p || D.dir q, 73), D.parentE q] = 0 := by simpa using he
    have hz : ∀ y ∈ [PDisk.no p, PDisk.no q, (decide (p = q), 2), D.gone p, (D.dir p || D.dir q, 73), D.parentE q], y.2 ≠ 0 := by
      intro y hy
      simp only [List.mem_cons, List.not_mem_nil, or_false] at hy
      rcases hy with rfl | rfl | rfl | rfl | rfl | rfl <;> simp [PDisk.no, PDisk.gone, PDisk.parentE]
    have k1 : okPath (str q) = true := by simpa [PDisk.no] using firstE_zero hz he (PDisk.no q) (by simp)
    have k2 : (D.dir p || D.dir q) = false := firstE_zero hz he (D.dir p || D.dir q, 73) (by simp)
    have k3 : D.dir (bs (parent (str q))) = true := by simpa [PDisk.parentE] using firstE_zero hz he (D.parentE q) (by simp)
    rw [Bool.or_eq_false_iff] at k2
    have hl : ∀ a m, D.at_ a = some m → m.node.kind = 2 → lookN (delN (putN D.names q (lookN D.names p)) p) a = lookN D.names a := fun a m h1 h2 => by
      have hd := dir_of h1 h2
      rw [lookN_delN, if_neg (fun e => by subst e; rw [hd] at k2; exact absurd k2.1 (by decide)), lookN_putN, if_neg (fun e => by subst e; rw [hd] at k2; exact absurd k2.2 (by decide))]
    refine h.change fun x hx => ?_
    obtain ⟨hx1, hx2⟩ := List.mem_filter.1 hx
    have hx3 : x ∈ D.names ∨ x.1 = q := by
      unfold putN at hx1
      split at hx1
      · obtain ⟨y, hy, rfl⟩ := List.mem_map.1 hx1
        split
        · right; rfl
        · left; exact hy
      · rcases List.mem_append.1 hx1 with hx1 | hx1
        · left; exact hx1
        · right; simp at hx1; rw [hx1]
    rcases hx3 with hx3 | hx3
    · refine ⟨(h.names x hx3).1, fun a h1 h2 h3 => ?_⟩
      obtain ⟨m, hm, hk⟩ := (h.names x hx3).2 a h1 h2 h3
      exact ⟨m, by rw [hl a m hm hk]; exact hm, hk⟩
    · rw [hx3]
      refine ⟨k1, fun a h1 h2 h3 => ?_⟩
      obtain ⟨m, hm, hk⟩ := h.names.above k1 k3 h1 h2 h3
      exact ⟨m, by rw [hl a m hm hk]; exact hm, hk⟩
end Go.Proofs.YtgcfkljooabjjaaGreatDoor
