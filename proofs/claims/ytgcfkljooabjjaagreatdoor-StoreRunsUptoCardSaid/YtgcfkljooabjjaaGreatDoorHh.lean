/- Texts of this claim, one behind the other: DNew DBoot Quiet Store WholeLaw SaveLaw DRun DAwake StoreLaw. Conditions: what each lemma states. -/
import Derived.Test.YtgcfkljooabjjaaGreatDoorHf
import Derived.Carry
import Derived.Test.YtgcfkljooabjjaaGreatDoorHc
import Derived.Test.YtgcfkljooabjjaaGreatDoorHd
import Derived.Lib.SliceRun
import Derived.Test.YtgcfkljooabjjaaGreatDoorHg
import Derived.KernelRfl
namespace Go.Proofs.YtgcfkljooabjjaaGreatDoor
section
open Go.RowKit Go.Op Go.Maps
def nmOf : List Node → Nat → NameL
  | [], _ => []
  | n :: t, i => (n.path, i + 1) :: nmOf t (i + 1)
theorem nmOf_append : ∀ (a b : List Node) (i : Nat), nmOf (a ++ b) i = nmOf a i ++ nmOf b (i + a.length)
  | [], b, i => by simp [nmOf]
  | n :: a, b, i => by
    rw [List.cons_append, nmOf, nmOf, nmOf_append a b (i + 1), List.cons_append, List.length_cons, show i + 1 + a.length = i + (a.length + 1) by omega]
theorem nmOf_has : ∀ (a : List Node) (i : Nat) (p : ByteArray), hasN (nmOf a i) p = true ↔ ∃ n ∈ a, n.path = p
  | [], i, p => by simp [nmOf, hasN]
  | n :: a, i, p => by simp [nmOf, hasN, nmOf_has a (i + 1) p]
theorem nmOf_len : ∀ (a : List Node) (i : Nat), (nmOf a i).length = a.length
  | [], _ => rfl
  | n :: a, i => by simp [nmOf, nmOf_len a (i + 1)]
def newD' (t : List Node) : PDisk := ⟨nmOf t 0, [], [], t.map fun n => ⟨n, 0, false⟩, false, 0, [], [], [], .slice none 0 0⟩
def newD (t : List Node) : PDisk := { newD' t with safe := nmOf t 0 }
theorem newD_step {t : List Node} (hs : Sorted t) {i : Nat} (hi : i < t.length) :
    { ((newD' (t.take i)).make t[i] 0 false) with names := putN (newD' (t.take i)).names t[i].path ((newD' (t.take i)).inos.length + 1) } = newD' (t.take (i + 1)) := by
  have ht : t.take (i + 1) = t.take i ++ [t[i]] := by rw [List.take_add_one, List.getElem?_eq_getElem hi]; rfl
  have hno : hasN (nmOf (t.take i) 0) t[i].path = false := by
    cases hh : hasN (nmOf (t.take i) 0) t[i].path
    · rfl
    obtain ⟨n, hn, e⟩ := (nmOf_has _ _ _).1 hh; obtain ⟨j, hj, rfl⟩ := List.getElem_of_mem hn; have hji : j < i := by rw [List.length_take] at hj; omega
    have h1 := List.pairwise_iff_getElem.1 hs j i (by omega) hi hji; rw [List.getElem_take] at e; have h2 : t[j].p = t[i].p := by show str _ = str _; rw [e]
    rw [h2, order_self] at h1; omega
  unfold newD' PDisk.make; dsimp only; rw [ht, nmOf_append, List.map_append]; unfold putN; rw [if_neg (by rw [hno]; decide)]; have hl : (t.take i).length = i := by rw [List.length_take]; omega
  simp [nmOf]
theorem newD_zero {w : World} {gd nb ib : Nat} (hB : Blk w gd 99 #[.map (some nb), .map none, .slice none 0 0, .map (some ib), .int .i64 1, .bool false, .int .i64 0, .slice none 0 0, .slice none 0 0, .slice none 0 0])
    (hN : w.ownsMap Tryz.prog 9 (plainElem Tryz.prog 3) nb 0 (.map [] : DataW Unit)) (hI : w.ownsMap Tryz.prog 3 ptrElem ib 0 (.map [] : DataW Unit)) (hne : ib ≠ nb) :
    DiskM w gd ⟨nb, none, ib, .slice none 0 0, .slice none 0 0, .slice none 0 0, [], [], []⟩ (newD' []) where
  blk := hB
  parts := {
    names := ⟨List.Pairwise.nil, _, hN, rfl, fun p => ⟨rfl, rfl⟩⟩
    safe := rfl
    later := World.ownsRow_nil w 0 _ 1
    lbl := rfl
    laters := fun i b l h1 _ => by simp at h1
    ino := ⟨_, hI, rfl, fun k q h => by simp at h, fun i _ => rfl⟩
    qsl := rfl
    inos := fun i q n h1 _ => by simp at h1
    nodup := List.nodup_nil
    trace := World.ownsRow_nil w 0 _ 3
    fates := ⟨⟨none, 0, rfl, Nat.le_refl _, fun h => absurd rfl h⟩, EditsAt.nil w _⟩
    fbl := fun g hg => by cases hg
    apart := ⟨hne, by simp, by simp⟩ }
def NewMid (w : World) (gd nb : Nat) (D : PDisk) (wr : World) : Prop :=
  ∃ G, DiskM wr gd G D ∧ G.nb = nb ∧ nb ∉ G.rest ∧ G.sb = none ∧ (∀ b ∈ G.parts, w.heap.size ≤ b) ∧ Off [] w wr
theorem NewMid.turned {w wr wU : World} {gd nb : Nat} {D D1 : PDisk} {G : Geo} {e : Ending} (h1 : DiskM wr gd G D) (hnb : G.nb = nb) (h4 : G.sb = none) (h5 : ∀ b ∈ G.parts, w.heap.size ≤ b) (h6 : Off [] w wr) (hgd : w.heap.size ≤ gd) (ht : TurnP gd nb G D1 wr e wU) : NewMid w gd nb D1 wU := by
  obtain ⟨-, G', a1, a2, a3, a4, a5, a6⟩ := ht; refine ⟨G', a3, a1, a4, a2.trans h4, fun b hb => ?_, h6.trans a5 (fun x hx hm => ?_)⟩
  · rcases List.mem_cons.1 hb with rfl | hb
    · rw [a1, ← hnb]; exact h5 _ (List.mem_cons_self ..)
    rcases a6 b hb with h | h
    · exact h5 b (List.mem_cons_of_mem _ h)
    exact Nat.le_trans h6.size h
  exfalso
  rcases List.mem_cons.1 hm with rfl | hm
  · omega
  rcases List.mem_cons.1 hm with rfl | hm
  · have := h5 G.nb (List.mem_cons_self ..); omega
  have := h5 x (List.mem_cons_of_mem _ hm); omega
set_option maxRecDepth 100000 in
set_option maxHeartbeats 8000000 in
theorem dnew_ok (fp : Option Addr) (t : List Node) (n c : Nat) (w : World) (hR : Row w fp t) (hn : t.length = n) (hc : n ≤ c) (hok : okTree t = true) (hF : Fits t) (hT : Tabs w) :
    Calls Tryz.prog 14 #[.slice fp n c] w fun e w' => ∃ gd G, e = .returned (.tuple #[.pointer (some ⟨gd, 0, none⟩), .int .i64 0]) ∧ DiskM w' gd G (newD t) ∧ w.heap.size ≤ gd ∧ (∀ b ∈ G.parts, w.heap.size ≤ b) ∧ G.sb.isSome = true ∧ Off [] w w' := by
  have hbig : n ≤ 1000 := by rw [← hn]; exact okTree_len hok
  have HCK := Lib.hid (check_any fp t n c w hR hn hc (by unfold maxLen; omega) hF hT); have hck : chkV t = 0 := by unfold chkV; rw [hok]; rfl
  rw [hck] at HCK; have HR := Lib.hid hR; have HN := Lib.hid hn; have HS := Lib.hid (okTree_sorted hok); have HSM := Lib.hid (fun (x : Node) (hx : x ∈ t) => okTree_small hok hx); clear hR hn hok hF hT hck
  go_enter Tryz.func14, Tryz.ntmps14
  go_wp2_with fail
  refine HCK.out.mono ?_
  rintro e w1 ⟨rfl, ho1⟩; have HO1 := Lib.hid ho1; clear HCK ho1
  go_wp2_with fail
  rw [run_makeMap]; simp only [Result.andThen]; rw [Oper.upon_value]
  go_wp2_with fail
  rw [run_makeMap]; simp only [Result.andThen]; rw [Oper.upon_value]
  go_upto_region 4 with fail
  obtain ⟨gd, hgd⟩ : ∃ gd, w1.heap.size + 1 + 1 = gd := ⟨_, rfl⟩
  obtain ⟨nb, hnb⟩ : ∃ nb, w1.heap.size = nb := ⟨_, rfl⟩
  have hm0 : NewMid w gd nb (newD' []) (((w1.alloc (Obj.map #[] 0)).alloc (Obj.map #[] 0)).alloc (.cells #[.map (some w1.heap.size), .map none, .slice none 0 0, .map (some (w1.heap.size + 1)), .int .i64 1, .bool false, .int .i64 0, .slice none 0 0, .slice none 0 0, .slice none 0 0] 99)) := by
    have hsz := HO1.out.size; refine ⟨⟨w1.heap.size, none, w1.heap.size + 1, .slice none 0 0, .slice none 0 0, .slice none 0 0, [], [], []⟩, newD_zero ?_ ?_ ?_ (by omega), hnb, ?_, rfl, ?_, (((HO1.out.alloc _).alloc _).alloc _)⟩
    · rw [← hgd]; exact Blk.new2 w1 _ _ _ _
    · exact ownsMap_off (World.ownsMap_made w1 Tryz.prog _ _) ((((Off.refl [] _).alloc _)).alloc _) (by simp)
    · have := ownsMap_off (World.ownsMap_made (w1.alloc (Obj.map #[] 0)) Tryz.prog 3 ptrElem (H := Unit)) ((Off.refl [] _).alloc (.cells #[.map (some w1.heap.size), .map none, .slice none 0 0, .map (some (w1.heap.size + 1)), .int .i64 1, .bool false, .int .i64 0, .slice none 0 0, .slice none 0 0, .slice none 0 0] 99)) (by simp)
      simpa using this
    · rw [← hnb]
      intro h
      simp [Geo.rest, Value.ownBlock] at h
    intro b hb
    simp [Geo.parts, Geo.rest, Value.ownBlock] at hb
    omega
  have hgn : w.heap.size ≤ gd := by have := HO1.out.size; omega
  refine code_gen (fun W => NewMid w gd nb (newD' []) W) hm0 ?_
  rw [hgd, hnb]; have HGN := Lib.hid hgn; clear hm0 hgd hnb hgn; rintro W0 hm0
  go_wp2_with fail
  go_loopw [16] (fun x wr => ∃ i : Nat, x = .int .i64 i ∧ i ≤ n ∧ NewMid w gd nb (newD' (t.take i)) wr) (fun x _ => n - (intOf x).toNat)
  case atStart => exact ⟨0, rfl, by omega, by rw [List.take_zero]; exact hm0⟩
  case round =>
    clear hm0; obtain ⟨i, rfl, hi, hmid⟩ := hrel; have HMID := Lib.hid hmid; obtain ⟨G, hM, hnb, hnr, hsb, hpl, hof⟩ := hmid
    by_cases hlt : i < n
    · have hil : i < t.length := by rw [HN.out]; exact hlt
      obtain ⟨a, rfl, hna, hab⟩ := (HR.out.off hof).get i hil; have HSTEP := Lib.hid (newD_step HS.out hil); have hps := HSM.out _ (List.getElem_mem hil); generalize t[i] = x at *; obtain ⟨D, hD⟩ : ∃ D, newD' (t.take i) = D := ⟨_, rfl⟩
      have HIL := Lib.hid (show D.inos.length ≤ 1000 from by rw [← hD]; simp [newD']; omega); have HNL := Lib.hid (show D.names.length ≤ 1000 from by rw [← hD]; simp [newD', nmOf_len]; omega); rw [hD] at hM HSTEP; have c0 := hna.path; have c1 := hna.kind; have c2 := hna.data; have c3 := hna.mode; have hilt : (i : Int) < n := by omega
      have HM := Lib.hid hM; have HX := Lib.hid (show G.nb = nb ∧ nb ∉ G.rest ∧ G.sb = none ∧ (∀ b ∈ G.parts, w.heap.size ≤ b) ∧ Off [] w wr from ⟨hnb, hnr, hsb, hpl, hof⟩); have HPS := Lib.hid hps; clear hM hnb hnr hsb hpl hof hna hil hD hps
      go_upto_region 7 with fail
      refine code_gen (fun W => Blk W wr.heap.size 30 #[.string x.path, .int .i64 x.kind, .string x.data, .int .i64 x.mode] ∧ Off [] wr W) ⟨Blk.new wr _ _, (Off.refl _ _).alloc _⟩ ?_
      rintro W ⟨hbn, hoW⟩; have HBN := Lib.hid hbn.drew; have HOW := Lib.hid hoW; have HMW := Lib.hid ((HM.out.off hoW (by simp) (by simp)).drew); have hS : (∀ i, W.drew.cell? ⟨wr.heap.size, i, none⟩ = (#[.string x.path, .int .i64 x.kind, .string x.data, .int .i64 x.mode] : Array Value)[i]?) ∧ W.drew.cell? ⟨gd, 0, none⟩ = some (.map (some nb)) :=
        ⟨hbn.drew.cell, by have := HMW.out.blk.cell 0; rw [show (diskCells G D)[0]? = some (.map (some G.nb)) from rfl, HX.out.1] at this; exact this⟩
      have KEEP := Lib.hid (show ∀ (wA wU : World) (q : Nat), DiskM wA gd { G with qs := G.qs ++ [q] } (D.make x 0 false) → Off [gd, G.ib] W.drew wA → wA.grownBy wU (some G.nb) →
          ((∀ i, wA.cell? ⟨wr.heap.size, i, none⟩ = (#[.string x.path, .int .i64 x.kind, .string x.data, .int .i64 x.mode] : Array Value)[i]?) ∧ wA.cell? ⟨gd, 0, none⟩ = some (.map (some nb))) ∧
          (∀ i, wU.cell? ⟨wr.heap.size, i, none⟩ = (#[.string x.path, .int .i64 x.kind, .string x.data, .int .i64 x.mode] : Array Value)[i]?) ∧ wU.cell? ⟨gd, 0, none⟩ = some (.map (some nb)) from
        fun wA wU q hMA hoA hgU => by
          have hib := HMW.out.parts.ino.isMap; have hmb := HMW.out.parts.names.isMap; have h1 := HBN.out.off hoA (fun h => by
            simp at h
            rcases h with h | h
            · exact HBN.out.ne_ HMW.out.blk (by decide) h
            exact hib.ne HBN.out h.symm)
          have h3 : some wr.heap.size ≠ some G.nb := fun e => hmb.ne HBN.out (by injection e with e; exact e.symm)
          have h4 : some gd ≠ some G.nb := fun e => hmb.ne HMW.out.blk (by injection e with e; exact e.symm)
          have h5 := hMA.blk.grown hgU h4; refine ⟨⟨h1.cell, ?_⟩, (h1.grown hgU h3).cell, ?_⟩
          · have := hMA.blk.cell 0
            rw [show (diskCells { G with qs := G.qs ++ [q] } (D.make x 0 false))[0]? = some (.map (some G.nb)) from rfl, HX.out.1] at this; exact this
          have := h5.cell 0; rw [show (diskCells { G with qs := G.qs ++ [q] } (D.make x 0 false))[0]? = some (.map (some G.nb)) from rfl, HX.out.1] at this; exact this)
      clear c0 c1 c2 c3 hbn hoW hab
      go_region_held3 (fun w' => (∀ i, w'.cell? ⟨wr.heap.size, i, none⟩ = (#[.string x.path, .int .i64 x.kind, .string x.data, .int .i64 x.mode] : Array Value)[i]?) ∧ w'.cell? ⟨gd, 0, none⟩ = some (.map (some nb))) (first | assumption) ((go_at_call 43; refine (dmake_any gd G D x 0 false _ HMW.out (by have := HIL.out; omega)).mono ?_; rintro e wA ⟨rfl, q, hMA, hoA, hq⟩; obtain ⟨wU, hrunU, hNU, hgU⟩ := hMA.parts.names.add (by show D.names.length ≤ _; have := HNL.out; omega) x.path (by have := HPS.out; unfold maxLen; omega) (D.inos.length + 1) (D.inos.length + 1) (by simp) (by have := HIL.out; omega); obtain ⟨hSA, hSU⟩ := KEEP.out wA wU q hMA hoA hgU; rw [show ({ G with qs := G.qs ++ [q] } : Geo).nb = nb from HX.out.1] at hrunU))
      have HEND := Lib.hid (show NewMid w gd nb (newD' (t.take (i + 1))) wU from by
        rw [← HSTEP.out]; have hMG : DiskM W.drew gd { G with nb := G.nb } D := HMW.out
        have htp := turn_end (path := x.path) (m := G.nb) hMG (by rw [HX.out.1]; exact HX.out.2.1) hMA hoA hq (by rw [show (D.make x 0 false).names = D.names from rfl] at hNU; exact hNU) hgU; rw [HX.out.1] at htp; exact NewMid.turned HMW.out HX.out.1 HX.out.2.2.1 HX.out.2.2.2.1 ((HX.out.2.2.2.2.trans_nil HOW.out).drew) HGN.out htp)
      clear hSA hSU hS hMA hoA hq hNU hgU hrunU
      go_wp2_with fail
      exact ⟨⟨i + 1, by congr 1, by omega, HEND.out⟩, by simp only [intOf]; omega⟩
    obtain rfl : i = n := by omega
    have ht : t.take i = t := List.take_of_length_le (by rw [HN.out]; exact Nat.le_refl _)
    rw [ht] at hM; have HCL := Lib.hid (mclone_any G.nb (nmOf t 0) wr hM.parts.names); have hc0 := hM.blk.cell; unfold diskCells at hc0; have HM := Lib.hid hM; have HX := Lib.hid (show G.nb = nb ∧ nb ∉ G.rest ∧ G.sb = none ∧ (∀ b ∈ G.parts, w.heap.size ≤ b) ∧ Off [] w wr from ⟨hnb, hnr, hsb, hpl, hof⟩); clear hM hnb hnr hsb hpl hof ht
    go_wp2_with fail
    refine HCL.out.mono ?_
    rintro e w3 ⟨rfl, hN3, ho3⟩; have hM3 := HM.out.off ho3 (by simp) (by simp); have HM3 := Lib.hid hM3; have HN3 := Lib.hid hN3; have HO3 := Lib.hid ho3; have hc3 := hM3.blk.cell; have hf3 := hM3.blk.frozen; have hl3 := hM3.blk.lt; unfold diskCells at hc3; clear hc0 hM3 hN3 ho3
    go_wp2_with fail
    go_ret2
    have hwg : wr.heap.size ∉ G.parts := fun h => Nat.lt_irrefl _ (HM.out.parts.lt h)
    refine ⟨gd, { G with sb := some wr.heap.size }, rfl, ⟨?_, ?_⟩, HGN.out, ?_, rfl, ?_⟩
    · have := HM3.out.blk.set_ 1 (.map (some wr.heap.size))
      unfold diskCells at this ⊢
      simpa [newD] using this
    · have hS : Off [gd] w3 (w3.setCell ⟨gd, 1, none⟩ (.map (some wr.heap.size))) := (Off.refl [gd] w3).setCell (.inr (by simp)) _
      have hPP := HM3.out.parts.off (k := [gd]) hS (fun b hb h => by simp at h; subst h; exact HM3.out.far hb); exact {
        names := hPP.names
        safe := HN3.out.off hS (by have := HM.out.blk.lt; simp; omega)
        later := hPP.later
        lbl := hPP.lbl
        laters := hPP.laters
        ino := hPP.ino
        qsl := hPP.qsl
        inos := hPP.inos
        nodup := hPP.nodup
        trace := hPP.trace
        fates := hPP.fates
        fbl := hPP.fbl
        apart := ⟨hPP.apart.1, fun e => hwg (by injection e with e; rw [e]; exact List.mem_cons_of_mem _ (mem_rest.2 (.inr (.inl rfl)))), hPP.apart.2.2⟩ }
    · intro b hb
      rcases List.mem_cons.1 hb with rfl | hb
      · exact HX.out.2.2.2.1 _ (List.mem_cons_self ..)
      rcases mem_rest.1 hb with h | h
      · simp at h; subst h; exact HX.out.2.2.2.2.size
      exact HX.out.2.2.2.1 b (List.mem_cons_of_mem _ (mem_rest.2 (.inr h)))
    exact (HX.out.2.2.2.2.trans_nil HO3.out).setCell (.inl HGN.out) _
end
section
open Go.RowKit Go.Op Go.Maps
def FRow (w : World) (p : Option Addr) (fs : List FateP) : Prop :=
  fs ≠ [] → ∃ a, p = some a ∧ a.block < w.heap.size ∧ ∀ (j : Nat) (u : Value), (fs.flatMap fateCells)[j]? = some u → w.cell? (a.add j) = some u
theorem FRow.off {w w' : World} {p : Option Addr} {fs : List FateP} (h : FRow w p fs) (ho : Off [] w w') : FRow w' p fs := fun hne => by
  obtain ⟨a, rfl, hb, hc⟩ := h hne; exact ⟨a, rfl, Nat.lt_of_lt_of_le hb ho.size, fun j u hj => (ho.cell (p := a.add j) (by rw [add_block]; exact hb) (by simp)).trans (hc j u hj)⟩
theorem FRow.nil (w : World) (p : Option Addr) : FRow w p [] := fun h => absurd rfl h
theorem fate_len : ∀ (fs : List FateP), (fs.flatMap fateCells).length = fs.length * 4
  | [] => rfl
  | f :: fs => by rw [List.flatMap_cons, List.length_append, fate_len fs]; simp [fateCells]; omega
theorem fate_at : ∀ (fs : List FateP) (j : Nat) (f : FateP), fs[j]? = some f → ∀ (i : Nat) (u : Value), (fateCells f)[i]? = some u → (fs.flatMap fateCells)[j * 4 + i]? = some u
  | [], j, f, h, _, _, _ => by simp at h
  | x :: fs, 0, f, h, i, u, hu => by
    simp at h
    subst h; rw [List.flatMap_cons, Nat.zero_mul, Nat.zero_add, List.getElem?_append_left (List.getElem?_eq_some_iff.1 hu).1]; exact hu
  | x :: fs, j + 1, f, h, i, u, hu => by
    rw [List.flatMap_cons, List.getElem?_append_right (by simp [fateCells]; omega)]; rw [show (j + 1) * 4 + i - (fateCells x).length = j * 4 + i by simp [fateCells]; omega]; exact fate_at fs j f (by simpa using h) i u hu
theorem fate_one (fs : List FateP) : ∀ u ∈ fs.flatMap fateCells, u.oneCell' = true := by
  intro u hu
  obtain ⟨n, _, hn⟩ := List.mem_flatMap.1 hu; simp [fateCells] at hn
  rcases hn with rfl | rfl | rfl | rfl <;> rfl
theorem infoFate : (Tryz.prog.info? 23).map (fun i => (i.zero, i.size, i.bytes)) = some (some (.agg #[.int .i64 0, .int .i64 0, .int .i64 0, .int .i64 0]), 4, 32) := by kernel_rfl
set_option maxRecDepth 100000 in
set_option maxHeartbeats 4000000 in
theorem fclone_any (p : Option Addr) (fs : List FateP) (n cap : Nat) (w : World) (hR : FRow w p fs) (hn : fs.length = n) (hbig : n ≤ 4398046511103) (hpn : p = none → fs = []) :
    Calls Tryz.prog 45 #[.slice p n cap] w fun e w' => ∃ v, e = .returned v ∧ w'.ownsRow w.heap.size 23 4 v n (fs.flatMap fateCells) ∧ Off [] w w' := by
  obtain ⟨i0, hi0, hz0, hz1, hz2⟩ := info_parts infoFate; have q22 : ∀ (w : World) (a : Option Addr) (n c n' c' : Nat), (binOp .eql 33 (.slice a n c) (.slice none n' c')).run Tryz.prog w = .ok (.bool a.isNone) w := fun w a n c n' c' => Lib.run_eql_slice_nil w _ _ a n c n' c' Tryz.underlying33
  cases p with
  | none =>
    obtain rfl := hpn rfl; obtain rfl : 0 = n := hn
    clear hR hpn
    go_enter Tryz.func45, Tryz.ntmps45
    go_wp2_with fail
    go_ret
    exact ⟨_, rfl, ⟨rfl, .inl ⟨rfl, rfl⟩⟩, Off.refl _ _⟩
  | some a =>
    have HC := Lib.hid (show ∀ (j : Nat) (u : Value), (fs.flatMap fateCells)[j]? = some u → w.cell? (a.add j) = some u from fun j u hj => by
      obtain ⟨a', e, _, h⟩ := hR (fun e => by subst e; simp at hj)
      cases e
      exact h j u hj)
    have HO := Lib.hid (fate_one fs); have HCL := Lib.hid (show (fs.flatMap fateCells).length = n * 4 by rw [fate_len, hn]); clear hR hpn hn
    go_enter Tryz.func45, Tryz.ntmps45
    go_wp2_with (at_builtin; refine wpList_append_own _ rfl _ _ 33 rfl w.heap.size 23 i0 _ 4 32 Tryz.underlying33 hi0 hz0 hz1 hz2 rfl (by decide) _ _ _ rfl (World.ownsRow_made w #[] 0 (Nat.le_refl _) (Nat.zero_le _) rfl) a n cap (fs.flatMap fateCells) rfl HCL.out ?qc2 HO.out ?qc4 ?qc5 ?qc6 ?_)
    case qc2 =>
      intro j u hj
      exact Lib.cell?_alloc_some _ (HC.out j u hj)
    case qc4 => unfold maxLen; omega
    case qc5 => omega
    case qc6 => simp
    intro v' w1 hown hgrow hnil
    go_wp2_with fail
    go_ret
    refine ⟨v', rfl, by simpa using hown, ?_⟩
    exact ((Off.refl _ w).alloc _).grown hgrow (by intro k hk; simp [Value.ownBlock] at hk; omega)
theorem fatesAt_own {w : World} {base : Nat} {v : Value} {fs : List FateP} (h : w.ownsRow base 23 4 v fs.length (fs.flatMap fateCells)) : FatesAt w v v.ownBlock.toList fs ∧ ∀ b ∈ v.ownBlock.toList, base ≤ b ∧ ∃ cs, Blk w b 23 cs := by
  rcases h.2 with ⟨rfl, h1⟩ | ⟨g, cap, cur, rfl, hb, hh, hc, _, hsz, ht⟩
  · refine ⟨⟨none, 0, by rw [h1], by omega, fun hne => absurd (List.length_eq_zero_iff.1 h1) hne⟩, fun b hb => by simp [Value.ownBlock] at hb⟩
  have hB : Blk w g 23 cur := hh
  refine ⟨⟨some ⟨g, 0, none⟩, cap, rfl, hc, fun _ => ⟨g, rfl, by simp [Value.ownBlock], hB.lt, fun j f hj i u hu => ?_⟩⟩, fun b hb' => ?_⟩
  · rw [hB.cell]
    have h3 := fate_at fs j f hj i u hu; rw [← ht, List.getElem?_take] at h3
    split at h3
    · simpa using h3
    cases h3
  simp [Value.ownBlock] at hb'
  subst hb'; exact ⟨hb, _, hB⟩
def ArgV (w : World) (u : Value) (t : List Node) : Prop := ∃ q d, u = .slice q t.length d ∧ t.length ≤ d ∧ d ≤ maxLen ∧ (q = none → t = []) ∧ Fits t ∧ Row w q t
structure EditIn (w : World) (a : Addr) (e : EditP) (u : Value) : Prop where
  at_ : w.cell? a = some (.int .i64 e.at_)
  path : w.cell? ⟨a.block, a.off + 1, none⟩ = some (.string e.path)
  value : w.cell? ⟨a.block, a.off + 2, none⟩ = some u
def ERow (w : World) (p : Option Addr) (es : List EditP) : Prop :=
  es ≠ [] → ∃ a, p = some a ∧ a.block < w.heap.size ∧ ∀ (i : Nat) (e : EditP), es[i]? = some e → ∃ u, ArgV w u e.value ∧ EditIn w (a.add (i * 3)) e u
theorem ArgV.off {w w' : World} {u : Value} {t : List Node} (h : ArgV w u t) (ho : Off [] w w') : ArgV w' u t := by
  obtain ⟨q, d, h1, h2, h3, h4, h5, h6⟩ := h; exact ⟨q, d, h1, h2, h3, h4, h5, h6.off ho⟩
theorem ERow.off {w w' : World} {p : Option Addr} {es : List EditP} (h : ERow w p es) (ho : Off [] w w') : ERow w' p es := fun hne => by
  obtain ⟨a, rfl, hb, hn⟩ := h hne; refine ⟨a, rfl, Nat.lt_of_lt_of_le hb ho.size, fun i e hi => ?_⟩; obtain ⟨u, hu, h3⟩ := hn i e hi; have hbl : (a.add (i * 3)).block < w.heap.size := by rw [add_block]; exact hb
  exact ⟨u, hu.off ho, ⟨(ho.cell hbl (by simp)).trans h3.at_, (ho.cell (p := ⟨(a.add (i * 3)).block, (a.add (i * 3)).off + 1, none⟩) hbl (by simp)).trans h3.path, (ho.cell (p := ⟨(a.add (i * 3)).block, (a.add (i * 3)).off + 2, none⟩) hbl (by simp)).trans h3.value⟩⟩
theorem ERow.nil (w : World) (p : Option Addr) : ERow w p [] := fun h => absurd rfl h
def flatE : List EditP → List Value → List Value
  | e :: es, u :: us => editCells e u ++ flatE es us
  | _, _ => []
theorem flatE_snoc : ∀ (es : List EditP) (us : List Value) (e : EditP) (u : Value), es[us.length]? = some e → flatE es (us ++ [u]) = flatE es us ++ editCells e u
  | [], us, e, u, h => by simp at h
  | x :: es, [], e, u, h => by
    simp at h
    subst h
    show editCells x u ++ flatE es [] = _
    have : flatE es [] = [] := by cases es <;> rfl
    rw [this]
    show _ = flatE (x :: es) [] ++ _
    show _ = [] ++ _
    simp
  | x :: es, v :: us, e, u, h => by
    show editCells x v ++ flatE es (us ++ [u]) = (editCells x v ++ flatE es us) ++ editCells e u
    rw [flatE_snoc es us e u (by simpa using h), List.append_assoc]
theorem flatE_at : ∀ (es : List EditP) (us : List Value) (j : Nat) (e : EditP) (u : Value), es[j]? = some e → us[j]? = some u → ∀ (i : Nat) (x : Value), (editCells e u)[i]? = some x → (flatE es us)[j * 3 + i]? = some x
  | [], us, j, e, u, h, _, _, _, _ => by simp at h
  | x :: es, [], j, e, u, _, h, _, _, _ => by simp at h
  | y :: es, v :: us, 0, e, u, h1, h2, i, x, hx => by
    simp at h1 h2
    subst h1; subst h2
    show (editCells y v ++ flatE es us)[0 * 3 + i]? = _
    rw [Nat.zero_mul, Nat.zero_add, List.getElem?_append_left (List.getElem?_eq_some_iff.1 hx).1]; exact hx
  | y :: es, v :: us, j + 1, e, u, h1, h2, i, x, hx => by
    show (editCells y v ++ flatE es us)[(j + 1) * 3 + i]? = _
    rw [List.getElem?_append_right (by simp [editCells]; omega)]; rw [show (j + 1) * 3 + i - (editCells y v).length = j * 3 + i by simp [editCells]; omega]; exact flatE_at es us j e u (by simpa using h1) (by simpa using h2) i x hx
theorem infoEdit : (Tryz.prog.info? 104).map (fun i => (i.zero, i.size, i.bytes)) = some (some (.agg #[.int .i64 0, .string ⟨#[]⟩, .slice none 0 0]), 3, 48) := by kernel_rfl
structure EMid (W wr : World) (p : Nat) (cs : Array Value) (es : List EditP) (us : List Value) (v : Value) : Prop where
  blk : Blk wr p 99 (cs.setIfInBounds 9 v)
  off : Off [p] W wr
  row : wr.ownsRow W.heap.size 104 3 v us.length (flatE es us)
  vals : ∀ (j : Nat) (e : EditP) (u : Value), es[j]? = some e → us[j]? = some u → wr.ownsRow W.heap.size 30 4 u e.value.length (cellsOf e.value)
theorem editsAt_own {W wr : World} {p : Nat} {cs : Array Value} {es : List EditP} {us : List Value} {v : Value} (h : EMid W wr p cs es us v) (hl : us.length = es.length) (hm : es.length ≤ maxLen) (hF : ∀ e ∈ es, Fits e.value) (fb : List Nat)
    (hb : (∀ b ∈ v.ownBlock.toList, b ∈ fb) ∧ ∀ u ∈ us, ∀ b ∈ u.ownBlock.toList, b ∈ fb) : EditsAt wr v fb es := by
  have hr := h.row; rw [hl] at hr
  rcases hr.2 with ⟨rfl, h1⟩ | ⟨g, cap, cur, rfl, hbb, hh, hc, _, hsz, ht⟩
  · exact ⟨none, 0, by rw [h1], by omega, hm, fun hne => absurd (List.length_eq_zero_iff.1 h1) hne⟩
  have hB : Blk wr g 104 cur := hh
  refine ⟨some ⟨g, 0, none⟩, cap, rfl, hc, hm, fun _ => ⟨g, rfl, hb.1 g (by simp [Value.ownBlock]), hB.lt, fun j e hj => ?_⟩⟩
  have hjl : j < us.length := by rw [hl]; exact (List.getElem?_eq_some_iff.1 hj).1
  have huj := List.getElem?_eq_getElem hjl; have hv := h.vals j e _ hj huj; obtain ⟨q, d, he, hrow, hd, hq, hqb⟩ := own_row hv; obtain ⟨q', d', he', -, -, hdm, -⟩ := Sl.own hv; rw [he] at he'; obtain ⟨rfl, rfl⟩ : q = q' ∧ d = d' := by simpa using he'
  refine ⟨us[j], ⟨q, d, he, hd, hdm, hq, hF e (List.mem_of_getElem? hj), fun a ha => ?_, hrow⟩, fun i x hi => ?_⟩
  · refine hb.2 us[j] (List.getElem_mem hjl) a.block ?_
    rcases hv.2 with ⟨e0, _⟩ | ⟨g0, c0, cu0, e0, _⟩
    · rw [e0] at he; injection he with h1 h2 h3; rw [← h1] at ha; cases ha
    rw [e0] at he ⊢; injection he with h1 h2 h3
    rw [← h1] at ha
    cases ha
    simp [Value.ownBlock]
  rw [hB.cell]; have h3 := flatE_at es us j e _ hj huj i x hi; rw [← ht, List.getElem?_take] at h3
  split at h3
  · simpa using h3
  cases h3
theorem EMid.keep {W wr w' : World} {p : Nat} {cs : Array Value} {es : List EditP} {us : List Value} {v : Value} (h : EMid W wr p cs es us v) (ho : Off [] wr w') : EMid W w' p cs es us v :=
  ⟨h.blk.off ho (by simp), h.off.trans ho (fun _ _ h => by simp at h), own_offk h.row ho (by simp), fun j e u h1 h2 => own_offk (h.vals j e u h1 h2) ho (by simp)⟩
theorem EMid.snoc {W W5 w7 : World} {p gg cap : Nat} {cs : Array Value} {es : List EditP} {us : List Value} {v u : Value} {e : EditP} {o : Obj} (h : EMid W W5 p cs es us v) (hj : es[us.length]? = some e) (hu : W5.ownsRow W.heap.size 30 4 u e.value.length (cellsOf e.value)) (hpW : p < W.heap.size)
    (hown : w7.ownsRow W.heap.size 104 3 (.slice (some ⟨gg, 0, none⟩) (us.length + 1) cap) (us.length + 1) (flatE es us ++ editCells e u)) (hg : (W5.alloc o).drew.grownBy w7 v.ownBlock) :
    EMid W (w7.setCell ⟨p, 9, none⟩ (.slice (some ⟨gg, 0, none⟩) (us.length + 1) cap)) p cs es (us ++ [u]) (.slice (some ⟨gg, 0, none⟩) (us.length + 1) cap) := by
  have h5 := h.keep (((Off.refl [] W5).alloc o).drew); have hgo : Off v.ownBlock.toList (W5.alloc o).drew w7 := (Off.refl _ _).grown hg (fun x hx => .inr (by rw [hx]; simp))
  have hvb := fun b hb => own_made_ h5.row b hb
  have hvt := own_blks h5.row; have hB7 := h5.blk.off hgo (fun hm => by have := (hvb p hm).1; omega); have hS : Off [p] w7 (w7.setCell ⟨p, 9, none⟩ (.slice (some ⟨gg, 0, none⟩) (us.length + 1) cap)) := (Off.refl [p] w7).setCell (.inr (by simp)) _
  refine ⟨by have := hB7.set_ 9 (.slice (some ⟨gg, 0, none⟩) (us.length + 1) cap); simpa using this, ?_, ?_, fun j e' u' h1 h2 => ?_⟩
  · refine (h5.off.trans hgo (fun x hx hm => ?_)).trans hS (fun _ _ h => h)
    have := (hvb x hm).1; omega
  · rw [List.length_append, flatE_snoc es us e u hj]
    refine own_offk hown hS (fun b hb hm => ?_)
    have := (own_made_ hown b hb).1; simp at hm; omega
  have hrow : (W5.alloc o).drew.ownsRow W.heap.size 30 4 u' e'.value.length (cellsOf e'.value) := by
    by_cases hjl : j < us.length
    · rw [List.getElem?_append_left hjl] at h2
      exact h5.vals j e' u' h1 h2
    rw [List.getElem?_append_right (by omega)] at h2; have hj0 : j = us.length := by
      have := (List.getElem?_eq_some_iff.1 h2).1; simp at this; omega
    subst hj0; simp at h2; subst h2; rw [hj] at h1
    cases h1
    exact own_offk hu (((Off.refl [] W5).alloc o).drew) (by simp)
  refine own_offk (own_offk hrow hgo (fun b hb hm => ?_)) hS (fun b hb hm => ?_)
  · obtain ⟨c1, hb1⟩ := own_blks hrow b hb
    obtain ⟨c2, hb2⟩ := hvt b hm; exact hb1.ne_ hb2 (by decide) rfl
  have := (own_made_ hrow b hb).1; simp at hm; omega
theorem bootE_ok {D : PDisk} {n : Nat} (h : Ok D n) (fs : List FateP) (es : List EditP) (ev : Value) (hf : fs.length ≤ 5000000000000) : Ok (D.bootE fs es ev) n :=
  ⟨h.names, h.safe, h.later, h.llen, h.inos, by simp [PDisk.bootE], h.clock, hf, h.nlen, h.slen, h.llens⟩
set_option maxRecDepth 100000 in
set_option maxHeartbeats 16000000 in
theorem dboot_callE (p n : Nat) (G : Geo) (D : PDisk) (fp ep : Option Addr) (fs : List FateP) (es : List EditP) (nf c ne ce : Nat) (w : World) (h : DSE w p G D n) (hF : FRow w fp fs) (hn : fs.length = nf) (hb : nf ≤ 4398046511103) (hpn : fp = none → fs = [])
    (hER : ∀ W, Off (p :: G.parts) w W → ERow W ep es) (hne : es.length = ne) (hnb : ne ≤ 1000000) (hvl : ∀ e ∈ es, e.value.length ≤ 2932031007402 ∧ Fits e.value) :
    Calls Tryz.prog 15 #[.pointer (some ⟨p, 0, none⟩), .slice fp nf c, .slice ep ne ce] w fun e w' => e = .returned (.tuple #[]) ∧ ∃ ev, DSETo w p G.parts w' (D.bootE fs es ev) n := by
  obtain ⟨i1, hi1, hy0, hy1, hy2⟩ := info_parts infoEdit; have H := Lib.hid h; have HCL := Lib.hid (fclone_any fp fs nf c w hF hn (by omega) hpn); have HN := Lib.hid hn; have HER := Lib.hid hER; have HNE := Lib.hid hne; have HVL := Lib.hid hvl; have hc0 := h.m.blk.cell; unfold diskCells at hc0; clear h hF hn hpn hER hne hvl
  go_enter Tryz.func15, Tryz.ntmps15
  go_wp2_with fail
  refine HCL.out.mono ?_
  rintro e w1 ⟨v0, rfl, hown, ho⟩; obtain ⟨pv, cv, rfl⟩ := row_len hown; have H1 := Lib.hid (H.out.off ho); have HOWN := Lib.hid hown; have HO := Lib.hid ho; have hc := H1.out.m.blk.cell; have hf := H1.out.m.blk.frozen; have hl := H1.out.m.blk.lt; unfold diskCells at hc; clear hown ho hc0
  go_upto_region 2 with fail
  obtain ⟨cs, hcs⟩ : ∃ cs, (((diskCells G D).setIfInBounds 5 (.bool false)).setIfInBounds 7 (.slice none 0 0)).setIfInBounds 8 (.slice pv nf cv) = cs := ⟨_, rfl⟩
  refine code_gen (fun W => Blk W p 99 (cs.setIfInBounds 9 (.slice none 0 0)) ∧ Off [p] w1 W)
    ⟨by rw [← hcs]; exact (((H1.out.m.blk.set_ 5 _).set_ 7 _).set_ 8 _).set_ 9 _, ((((Off.refl [p] w1).setCell (.inr (by simp)) _).setCell (.inr (by simp)) _).setCell (.inr (by simp)) _).setCell (.inr (by simp)) _⟩ ?_
  rintro W ⟨hB, hoW⟩; have HB := Lib.hid hB; have HOW := Lib.hid hoW; have HCS := Lib.hid hcs; have HPW := Lib.hid (show p < W.heap.size from Nat.lt_of_lt_of_le hl hoW.size); have HOO := Lib.hid (show Off (p :: G.parts) w W from (HO.out.mono (fun _ _ h => by simp at h)).trans hoW (fun x _ h => by simp at h; subst h; exact List.mem_cons_self ..)); clear hc hf hl hB hoW hcs
  go_wp2_with fail
  go_loopw [26] (fun x wr => ∃ (us : List Value) (v : Value), x = .int .i64 us.length ∧ us.length ≤ ne ∧ Hid (EMid W wr p cs es us v)) (fun x _ => ne - (intOf x).toNat)
  case atStart => exact ⟨[], .slice none 0 0, rfl, by simp, Lib.hid ⟨HB.out, Off.refl _ _, by
    have : flatE es [] = [] := by cases es <;> rfl
    rw [this]; exact ⟨rfl, .inl ⟨rfl, rfl⟩⟩, fun j e u _ h2 => by simp at h2⟩⟩
  case round =>
    clear HB; obtain ⟨us, v, rfl, hi, HM⟩ := hrel; obtain ⟨i, hil⟩ : ∃ i, us.length = i := ⟨_, rfl⟩
    have HIL := Lib.hid hil; rw [hil] at hi ⊢; clear hil
    by_cases hlt : i < ne
    · have hie : i < es.length := by rw [HNE.out]; exact hlt
      have hWr : Off (p :: G.parts) w wr := HOO.out.trans HM.out.off (fun x _ h => by simp at h; subst h; exact List.mem_cons_self ..)
      obtain ⟨a, rfl, hab, hn⟩ := HER.out wr hWr (fun e => by rw [e] at hie; simp at hie); have hej := List.getElem?_eq_getElem hie; obtain ⟨u, hu, hin⟩ := hn i _ hej; have HVE := Lib.hid (HVL.out _ (List.getElem_mem hie)); generalize es[i] = e at hej hu hin HVE; have HEJ := Lib.hid hej; obtain ⟨q, d, rfl, hqd, hdm, hqn, hfu, hru⟩ := hu; obtain ⟨k, hk⟩ : ∃ k, e.value.length = k := ⟨_, rfl⟩
      rw [hk] at hin hqd; have HRU := Lib.hid (And.intro hru (And.intro hk hqn)); have c0 := hin.at_; have c1 := hin.path; have c2 := hin.value; have hilt : (i : Int) < ne := by omega
      have habk : (a.add (i * 3)).block < wr.heap.size := by rw [add_block]; exact hab
      clear hin hn hab hej hie hru hk hqn hWr hfu
      go_upto_region 5 with fail
      refine code_gen (fun W3 => Blk W3 wr.heap.size 104 #[.int .i64 e.at_, .string e.path, .slice q k d] ∧ Off [] wr W3) ⟨Blk.new _ _ _, (Off.refl _ _).alloc _⟩ ?_
      rintro W3 ⟨hbe, ho3⟩; clear c0 c1 c2 habk; have hce := hbe.cell; have HBE := Lib.hid hbe; have HO3 := Lib.hid ho3; have HCV := Lib.hid (clone_any q e.value k d W3 (HRU.out.1.off ho3) HRU.out.2.1 (by rw [← HRU.out.2.1]; exact HVE.out.1) HRU.out.2.2); clear hbe ho3
      go_wp2_with fail
      refine HCV.out.mono ?_
      rintro e' w4 ⟨v', rfl, hown4, ho4⟩; obtain ⟨pq, cq, rfl⟩ := row_len hown4; have HM4 := Lib.hid ((HM.out.keep HO3.out).keep ho4); have HW4 := Lib.hid (own_base hown4 (show W.heap.size ≤ _ from Nat.le_trans HM.out.off.size HO3.out.size)); have hb4 := HBE.out.off ho4 (by simp); have HB4 := Lib.hid hb4; have HO4 := Lib.hid ho4; have hc4 := hb4.cell; have hf4 := hb4.frozen
      have hl4 := hb4.lt; have HKL := Lib.hid (show wr.heap.size ≤ w4.heap.size ∧ wr.heap.size < w4.heap.size from ⟨Nat.le_of_lt hb4.lt, hb4.lt⟩); clear hown4 ho4 hb4 hce HBE HCV
      go_upto_region 6 with fail
      refine code_gen (fun W5 => Blk W5 wr.heap.size 104 #[.int .i64 e.at_, .string e.path, .slice pq k cq] ∧ EMid W W5 p cs es us v ∧ W5.ownsRow W.heap.size 30 4 (.slice pq k cq) k (cellsOf e.value)) ⟨by simpa using HB4.out.set_ 2 (.slice pq k cq), ?_, ?_⟩ ?_
      · exact HM.out.keep ((HO3.out.trans_nil HO4.out).setCell (.inl (Nat.le_refl _)) _)
      · refine own_offk HW4.out ((Off.refl [wr.heap.size] w4).setCell (.inr (by simp)) _) (fun b hb hm => ?_)
        obtain ⟨c1, hb1⟩ := own_blks HW4.out b hb; simp at hm; exact hb1.ne_ HB4.out (by decide) hm
      rintro W5 ⟨hb5, hm5, hw5⟩; have HM5 := Lib.hid hm5; have HW5 := Lib.hid hw5; have hcb := hb5.cell; have hc9 : W5.cell? ⟨p, 9, none⟩ = some v := by rw [hm5.blk.cell, ← HCS.out]; simp [diskCells]
      have hfp := hm5.blk.frozen; have hlp := hm5.blk.lt; obtain ⟨px, cx, hv⟩ := row_len hm5.row; rw [HIL.out] at hv; subst hv; have hown6 : (W5.alloc (.cells #[.int .i64 e.at_, .string e.path, .slice pq k cq] 104)).drew.ownsRow W.heap.size 104 3 (.slice px i cx) i (flatE es us) := by
        have := own_offk (k := []) hm5.row (((Off.refl [] W5).alloc (.cells #[.int .i64 e.at_, .string e.path, .slice pq k cq] 104)).drew) (by simp); rw [HIL.out] at this; exact this
      have HW6 := Lib.hid hown6; have HPL := Lib.hid (show some p ≠ (Value.slice px i cx).ownBlock from fun e => by
        have := (own_made_ hown6 p (by rw [← e]; simp)).1; have := HPW.out; omega)
      have HB5 := Lib.hid ((hm5.blk.alloc (.cells #[.int .i64 e.at_, .string e.path, .slice pq k cq] 104)).drew); have HSW := Lib.hid (show W.heap.size ≤ W5.heap.size from hm5.off.size); clear hb5 hm5 hw5 hown6 hc4 hf4 hl4
      go_region_law ((refine step_append_lies _ (by rfl) _ _ _ (by rfl) W.heap.size 104 i1 _ 3 48 Tryz.underlying50 hi1 hy0 hy1 hy2 rfl (by decide) _ i _ (by rfl) HW6.out ⟨W5.heap.size, 0, none⟩ 1 1 [_, _, _] (by rfl) (by rfl) (cell_three_at (Blk.new W5 _ _)) (by simp [Value.oneCell']) (by omega) (by unfold maxLen; omega) (by omega) (by have := HSW.out; simp; omega) (W5.heap.size + 1) (by simp) ?_; intro gg cap w7 hown7 hgrow7 hat7 hlt7; have hB7 := (HB5.out).grown hgrow7 HPL.out; have hc7 : w7.cell? ⟨p, 9, none⟩ = some (.slice px i cx) := (by rw [hB7.cell, ← HCS.out]; simp [diskCells]); have hf7 := hB7.frozen; have hl7 := hB7.lt))
      all_goals go_wp2_with fail
      all_goals refine ⟨⟨us ++ [.slice pq k cq], .slice (some ⟨gg, 0, none⟩) (i + 1) cap, by rw [List.length_append, HIL.out]; rfl, by rw [List.length_append, HIL.out]; simp; omega, Lib.hid ?_⟩, by simp only [intOf]; omega⟩
      all_goals
        have h9 := EMid.snoc (e := e) (u := .slice pq k cq) (gg := gg) (cap := cap) HM5.out (by rw [HIL.out]; exact HEJ.out) (by have := HW5.out; rw [← HRU.out.2.1] at this ⊢; exact this) HPW.out (by rw [HIL.out]; exact hown7) (by rw [HIL.out] at *; exact hgrow7); rw [HIL.out] at h9; exact h9
    obtain rfl : ne = i := by omega
    go_wp2_with fail
    refine bodyPost_end (results_none rfl _ _ _) rfl ?_
    refine ⟨rfl, v, ?_⟩
    have hown := HOWN.out; have HCS2 := HCS.out; generalize hvv : (Value.slice pv nf cv) = v1 at hown HCS2
    rw [← HN.out] at hown; obtain ⟨hFA, hFB⟩ := fatesAt_own hown; have hsz1 : w.heap.size ≤ w1.heap.size := HO.out.size
    have hszW : w1.heap.size ≤ W.heap.size := HOW.out.size
    have hpw := H.out.m.blk.lt; have ho2 : Off [p] w1 wr := HOW.out.trans HM.out.off (fun _ _ h => h)
    have hpl : ∀ b ∈ v1.ownBlock.toList, b ≠ p := fun b hb e => by
      have := (hFB b hb).1; omega
    have hPW := H1.out.m.parts.off ho2 (fun b hb h => by simp at h; subst h; exact H1.out.m.far hb); have hvb := fun b hb => own_made_ HM.out.row b hb
    have hvt := own_blks HM.out.row; have hub : ∀ u ∈ us, ∃ e : EditP, wr.ownsRow W.heap.size 30 4 u e.value.length (cellsOf e.value) := fun u hu => by
      obtain ⟨j, hj, rfl⟩ := List.getElem_of_mem hu; have hje : j < es.length := by rw [HNE.out, ← HIL.out]; exact hj
      exact ⟨_, HM.out.vals j _ _ (List.getElem?_eq_getElem hje) (List.getElem?_eq_getElem hj)⟩
    have hew := editsAt_own HM.out (by rw [HIL.out, HNE.out]) (by rw [HNE.out]; unfold maxLen; omega) (fun e he => (HVL.out e he).2) (v1.ownBlock.toList ++ (v.ownBlock.toList ++ us.flatMap fun u => u.ownBlock.toList))
      ⟨fun b hb => List.mem_append_right _ (List.mem_append_left _ hb), fun u hu b hb => List.mem_append_right _ (List.mem_append_right _ (List.mem_flatMap.2 ⟨u, hu, hb⟩))⟩
    have hff : FatesAt wr v1 (v1.ownBlock.toList ++ (v.ownBlock.toList ++ us.flatMap fun u => u.ownBlock.toList)) fs := by
      have := hFA.off ho2 (fun b hb h => by simp at h; exact hpl b hb h); obtain ⟨p1, c1, h1, h2, h3⟩ := this; refine ⟨p1, c1, h1, h2, fun hne => ?_⟩; obtain ⟨g, h4, h5, h6⟩ := h3 hne; exact ⟨g, h4, List.mem_append_left _ h5, h6⟩
    refine H.out.to (Off.refl _ _) ⟨{ G with tv := .slice none 0 0, fv := v1, fb := v1.ownBlock.toList ++ (v.ownBlock.toList ++ us.flatMap fun u => u.ownBlock.toList) }, ⟨?_, ?_⟩, ?_, ?_, H.out.sb⟩ (bootE_ok H.out.ok fs es v (by rw [HN.out]; omega))
    · have := HM.out.blk
      rw [← HCS2] at this; unfold diskCells at this ⊢
      simpa [PDisk.bootE] using this
    · exact {
        names := hPW.names
        safe := hPW.safe
        later := hPW.later
        lbl := hPW.lbl
        laters := hPW.laters
        ino := hPW.ino
        qsl := hPW.qsl
        inos := hPW.inos
        nodup := hPW.nodup
        trace := World.ownsRow_nil _ 0 _ 3
        fates := ⟨hff, hew⟩
        fbl := fun g hg => by
          rcases List.mem_append.1 hg with hg | hg
          · obtain ⟨_, cs, hB⟩ := hFB g hg
            exact ⟨_, cs, hB.off ho2 (fun h => by simp at h; exact hpl g hg h), .inl rfl⟩
          rcases List.mem_append.1 hg with hg | hg
          · obtain ⟨cs, hB⟩ := hvt g hg
            exact ⟨_, cs, hB, .inr (.inl rfl)⟩
          obtain ⟨u, hu, hgu⟩ := List.mem_flatMap.1 hg; obtain ⟨e, hr⟩ := hub u hu; obtain ⟨cs, hB⟩ := own_blks hr g hgu; exact ⟨_, cs, hB, .inr (.inr rfl)⟩
        apart := hPW.apart }
    · exact (HO.out.mono (fun _ _ h => by simp at h)).trans ho2 (fun x _ h => by simp at h; subst h; exact List.mem_cons_self ..)
    intro b hb
    rcases List.mem_cons.1 hb with rfl | hb
    · exact .inl (List.mem_cons_self ..)
    rcases mem_rest.1 hb with h | h | h | h | h | h | h
    · exact .inl (List.mem_cons_of_mem _ (mem_rest.2 (.inl h)))
    · exact .inl (List.mem_cons_of_mem _ (mem_rest.2 (.inr (.inl h))))
    · exact .inl (List.mem_cons_of_mem _ (mem_rest.2 (.inr (.inr (.inl h)))))
    · exact .inl (List.mem_cons_of_mem _ (mem_rest.2 (.inr (.inr (.inr (.inl h))))))
    · exact .inl (List.mem_cons_of_mem _ (mem_rest.2 (.inr (.inr (.inr (.inr (.inl h)))))))
    · simp [Value.ownBlock] at h
    right
    rcases List.mem_append.1 h with h | h
    · exact (hFB b h).1
    rcases List.mem_append.1 h with h | h
    · have := (hvb b h).1; omega
    obtain ⟨u, hu, hgu⟩ := List.mem_flatMap.1 h; obtain ⟨e, hr⟩ := hub u hu; have := (own_made_ hr b hgu).1; omega
end
section
open Go.RowKit Go.Op Go.Maps
structure DS (w : World) (p : Nat) (G : Geo) (D : PDisk) (n : Nat) : Prop where
  m : DiskM w p G D
  sb : G.sb.isSome = true
  ok : Ok D n
  tabs : TabsX w p G.parts
  quiet : D.edits = []
theorem DS.e {w : World} {p n : Nat} {G : Geo} {D : PDisk} (h : DS w p G D n) : DSE w p G D n := ⟨h.m, h.sb, h.ok, h.tabs⟩
theorem DS.eok {w : World} {p n : Nat} {G : Geo} {D : PDisk} (h : DS w p G D n) : EditsOk D n := EditsOk.quiet h.quiet h.ok
theorem DS.off {w w' : World} {p n : Nat} {G : Geo} {D : PDisk} (h : DS w p G D n) (ho : Off [] w w') : DS w' p G D n :=
  ⟨h.m.off ho (by simp) (by simp), h.sb, h.ok, h.tabs.next (ho.mono (fun _ _ h => by simp at h)) (fun _ hb => .inl hb), h.quiet⟩
def DSTo (w : World) (p : Nat) (L : List Nat) (w' : World) (D : PDisk) (n : Nat) : Prop := ∃ G, DS w' p G D n ∧ Off (p :: L) w w' ∧ ∀ b ∈ G.parts, b ∈ L ∨ w.heap.size ≤ b
theorem DSTo.next {w w1 w2 : World} {p n n2 : Nat} {L : List Nat} {D1 D2 : PDisk} (h : DSTo w p L w1 D1 n) (k : ∀ G1, DS w1 p G1 D1 n → DSTo w1 p G1.parts w2 D2 n2) : DSTo w p L w2 D2 n2 := by
  obtain ⟨G1, h1, h2, h3⟩ := h; obtain ⟨G2, h4, h5, h6⟩ := k G1 h1; refine ⟨G2, h4, h2.trans h5 (fun x hx hm => ?_), fun b hb => ?_⟩
  · rcases List.mem_cons.1 hm with rfl | hm
    · exact List.mem_cons_self ..
    rcases h3 x hm with h | h
    · exact List.mem_cons_of_mem _ h
    omega
  rcases h6 b hb with h | h
  · exact h3 b h
  exact .inr (Nat.le_trans h2.size h)
theorem DSTo.step {w w1 w2 : World} {p n2 : Nat} {L : List Nat} {G1 : Geo} {D2 : PDisk} (ho : Off (p :: L) w w1) (hp : ∀ b ∈ G1.parts, b ∈ L ∨ w.heap.size ≤ b) (k : DSTo w1 p G1.parts w2 D2 n2) : DSTo w p L w2 D2 n2 := by
  obtain ⟨G2, h4, h5, h6⟩ := k; refine ⟨G2, h4, ho.trans h5 (fun x hx hm => ?_), fun b hb => ?_⟩
  · rcases List.mem_cons.1 hm with rfl | hm
    · exact List.mem_cons_self ..
    rcases hp x hm with h | h
    · exact List.mem_cons_of_mem _ h
    omega
  rcases h6 b hb with h | h
  · exact hp b h
  exact .inr (Nat.le_trans ho.size h)
theorem DSTo.off {w w1 w2 : World} {p n : Nat} {L : List Nat} {D : PDisk} (h : DSTo w p L w1 D n) (ho : Off [] w1 w2) : DSTo w p L w2 D n :=
  h.next fun G1 h1 => ⟨G1, h1.off ho, ho.mono (fun _ _ h => by simp at h), fun _ hb => .inl hb⟩
theorem DS.refl {w : World} {p n : Nat} {G : Geo} {D : PDisk} (h : DS w p G D n) : DSTo w p G.parts w D n := ⟨G, h, Off.refl _ _, fun _ hb => .inl hb⟩
theorem DSTo.le {w w' : World} {p n m : Nat} {L : List Nat} {D : PDisk} (h : DSTo w p L w' D n) (hm : n ≤ m) : DSTo w p L w' D m := by
  obtain ⟨G, h1, h2, h3⟩ := h; exact ⟨G, ⟨h1.m, h1.sb, PDisk.ok_mono h1.ok hm, h1.tabs, h1.quiet⟩, h2, h3⟩
theorem DSTo.of {w w' : World} {p n : Nat} {L : List Nat} {D : PDisk} (h : DSETo w p L w' D n) (hq : D.edits = []) : DSTo w p L w' D n := by
  obtain ⟨G, h1, h2, h3⟩ := h; exact ⟨G, ⟨h1.m, h1.sb, h1.ok, h1.tabs, hq⟩, h2, h3⟩
theorem DS.lift {w : World} {p n n' : Nat} {G : Geo} {D D' : PDisk} {f : FuncId} {args : Array Value} {R : Ending → Prop} {w0 : World} (_h : DS w p G D n) (hc : Calls Tryz.prog f args w0 fun e w' => R e ∧ DSETo w p G.parts w' D' n') (hq : D'.edits = []) :
    Calls Tryz.prog f args w0 fun e w' => R e ∧ DSTo w p G.parts w' D' n' := hc.mono fun _ _ ⟨he, hT⟩ => ⟨he, DSTo.of hT hq⟩
theorem step_edits (D : PDisk) (c p q : ByteArray) : (D.step c p q).2.2.edits = D.edits := by
  unfold PDisk.step
  split
  · rfl
  dsimp only
  split
  · rfl
  split
  · rfl
  split <;> rfl
theorem call_edits (D : PDisk) (c p q : ByteArray) (k : PDisk → Bool → Int × PDisk) (hk : ∀ E full, (k E full).2.edits = E.edits) : (D.call c p q k).2.edits = D.edits := by
  have h := step_edits D c p q; unfold PDisk.call; generalize D.step c p q = st at h; obtain ⟨full, e, E⟩ := st; dsimp only at h ⊢
  split
  · exact h
  exact (hk E full).trans h
theorem lay_edits (D : PDisk) (p : ByteArray) (n : Node) (full : Bool) (l : List (Bool × Int)) : (D.lay p n full l).2.edits = D.edits := by
  unfold PDisk.lay; dsimp only
  split <;> rfl
theorem write_edits (D : PDisk) (p data : ByteArray) (mode : Int) : (D.write p data mode).2.edits = D.edits := call_edits _ _ _ _ _ fun E full => by
  unfold PDisk.write_
  cases E.at_ p with
  | none => exact lay_edits _ _ _ _ _
  | some o => dsimp only; split <;> rfl
theorem mkdir_edits (D : PDisk) (p : ByteArray) : (D.mkdir p).2.edits = D.edits := call_edits _ _ _ _ _ fun _ _ => lay_edits _ _ _ _ _
theorem link_edits (D : PDisk) (p q : ByteArray) : (D.link p q).2.edits = D.edits := call_edits _ _ _ _ _ fun _ _ => lay_edits _ _ _ _ _
theorem sync_edits (D : PDisk) (p : ByteArray) : (D.sync p).2.edits = D.edits := call_edits _ _ _ _ _ fun E full => by
  unfold PDisk.sync_; dsimp only
  split
  · rfl
  cases E.at_ p <;> rfl
theorem replace_edits (D : PDisk) (p q : ByteArray) : (D.replace p q).2.edits = D.edits := call_edits _ _ _ _ _ fun E full => by
  unfold PDisk.replace_; dsimp only
  split <;> rfl
theorem remove_edits (D : PDisk) (p : ByteArray) : (D.remove p).2.edits = D.edits := call_edits _ _ _ _ _ fun E full => by
  unfold PDisk.remove_; dsimp only
  split <;> rfl
theorem move_edits (D : PDisk) (p q : ByteArray) : (D.move p q).2.edits = D.edits := call_edits _ _ _ _ _ fun E full => by
  unfold PDisk.move_; dsimp only
  split
  · rfl
  split <;> rfl
theorem flush_edits (D : PDisk) : D.flush.2.edits = D.edits := call_edits _ _ _ _ _ fun _ _ => rfl
theorem get_edits (D : PDisk) (p : ByteArray) : (D.get p).2.edits = D.edits := by
  have h := step_edits D ⟨#[71, 101, 116]⟩ p ⟨#[]⟩; unfold PDisk.get; generalize D.step ⟨#[71, 101, 116]⟩ p ⟨#[]⟩ = st at h; obtain ⟨full, e, E⟩ := st; dsimp only at h ⊢
  split <;> exact h
theorem names_edits (D : PDisk) (p : ByteArray) : (D.namesC p).2.edits = D.edits := by
  have h := step_edits D ⟨#[78, 97, 109, 101, 115]⟩ p ⟨#[]⟩; unfold PDisk.namesC; generalize D.step ⟨#[78, 97, 109, 101, 115]⟩ p ⟨#[]⟩ = st at h; obtain ⟨full, e, E⟩ := st; dsimp only at h ⊢
  split <;> exact h
section
variable {w : World} {p n : Nat} {G : Geo} {D : PDisk}
theorem flush_call (p n : Nat) (G : Geo) (D : PDisk) (w : World) (h : DS w p G D n) (hn : n ≤ 1000000) :
    Calls Tryz.prog 19 #[.pointer (some ⟨p, 0, none⟩)] w fun e w' => e = .returned (.int .i64 D.flush.1) ∧ DSTo w p G.parts w' D.flush.2 (n + 2) := by
  have := flush_callE p n G D w h.e h.eok (by omega); rw [PDisk.edited_quiet h.quiet] at this; exact h.lift this ((flush_edits _).trans h.quiet)
theorem dsync_call (p n : Nat) (G : Geo) (D : PDisk) (path : ByteArray) (w : World) (h : DS w p G D n) (hn : n ≤ 1000000) (hs : path.size ≤ 9223372036854775807) :
    Calls Tryz.prog 17 #[.pointer (some ⟨p, 0, none⟩), .string path] w fun e w' => e = .returned (.int .i64 (D.sync path).1) ∧ DSTo w p G.parts w' (D.sync path).2 (n + 2) := by
  have := dsync_callE p n G D path w h.e h.eok (by omega) hs; rw [PDisk.edited_quiet h.quiet] at this; exact h.lift this ((sync_edits _ _).trans h.quiet)
theorem dget_call (p n : Nat) (G : Geo) (D : PDisk) (path : ByteArray) (w : World) (h : DS w p G D n) (hn : n ≤ 1000000) (hs : path.size ≤ 9223372036854775807) :
    Calls Tryz.prog 20 #[.pointer (some ⟨p, 0, none⟩), .string path] w fun e w' => e = .returned (getVal (D.get path).1) ∧ DSTo w p G.parts w' (D.get path).2 (n + 1) := by
  have := dget_callE p n G D path w h.e h.eok (by omega) hs; rw [PDisk.edited_quiet h.quiet] at this; exact h.lift this ((get_edits _ _).trans h.quiet)
theorem dwrite_call (p n : Nat) (G : Geo) (D : PDisk) (path data : ByteArray) (mode : Int) (w : World) (h : DS w p G D n) (hn : n ≤ 1000000) (hs : path.size ≤ 9223372036854775807) :
    Calls Tryz.prog 16 #[.pointer (some ⟨p, 0, none⟩), .string path, .string data, .int .i64 mode] w fun e w' => e = .returned (.int .i64 (D.write path data mode).1) ∧ DSTo w p G.parts w' (D.write path data mode).2 (n + 2) := by
  have := dwrite_callE p n G D path data mode w h.e h.eok (by omega) hs; rw [PDisk.edited_quiet h.quiet] at this; exact h.lift this ((write_edits _ _ _ _).trans h.quiet)
theorem dreplace_call (p n : Nat) (G : Geo) (D : PDisk) (path q : ByteArray) (w : World) (h : DS w p G D n) (hn : n ≤ 1000000) (hs : path.size ≤ 9223372036854775807) (hsq : q.size ≤ 9223372036854775807) :
    Calls Tryz.prog 18 #[.pointer (some ⟨p, 0, none⟩), .string path, .string q] w fun e w' => e = .returned (.int .i64 (D.replace path q).1) ∧ DSTo w p G.parts w' (D.replace path q).2 (n + 2) := by
  have := dreplace_callE p n G D path q w h.e h.eok (by omega) hs hsq; rw [PDisk.edited_quiet h.quiet] at this; exact h.lift this ((replace_edits _ _ _).trans h.quiet)
end
end
section
open Go.RowKit Go.Op Go.Maps
def besideP (path : ByteArray) : ByteArray := path ++ (⟨#[126]⟩ : ByteArray)
def PDisk.save (D : PDisk) (path text : ByteArray) : Int × PDisk :=
  let r1 := D.write (besideP path) text 384
  if r1.1 ≠ 0 then r1 else
    let r2 := r1.2.sync (besideP path)
    if r2.1 ≠ 0 then r2 else
      let r3 := r2.2.replace (besideP path) path
      if r3.1 ≠ 0 then r3 else r3.2.flush
def PDisk.load (D : PDisk) (path : ByteArray) : (ByteArray × Bool × Int) × PDisk :=
  let r := D.get path
  if r.1.1 = 74 then ((⟨#[]⟩, false, 0), r.2) else if r.1.1 ≠ 0 then ((⟨#[]⟩, false, r.1.1), r.2) else
    if r.1.2.1.kind ≠ 1 then ((⟨#[]⟩, false, 73), r.2) else ((r.1.2.1.data, true, 0), r.2)
theorem beside_size (path : ByteArray) : (besideP path).size = path.size + 1 := by
  unfold besideP; rw [ByteArray.size_append]
  rfl
set_option maxRecDepth 100000 in
theorem beside_any (path : ByteArray) (w : World) (hs : path.size ≤ 1000000) : Calls Tryz.prog 57 #[.string path] w fun e w' => e = .returned (.string (besideP path)) ∧ Off [] w w' := by
  unfold besideP
  go_enter Tryz.func57, Tryz.ntmps57
  go_wp2_with fail
  go_ret
  exact ⟨rfl, Off.refl _ _⟩
set_option maxRecDepth 100000 in
set_option maxHeartbeats 4000000 in
theorem until_any (g n c : Nat) (fs : List (FuncId × Array Value × Array Value)) (P : Nat → World → Prop) (Q : Int → World → Prop) (w : World) (hn : fs.length = n) (hb : n ≤ 1000) (h0 : P 0 w)
    (hcell : ∀ i W, P i W → g < W.heap.size ∧ ∀ (j : Nat) f, fs[j]? = some f → W.cell? ⟨g, j, none⟩ = some (.func (.func f.1) f.2.1 f.2.2))
    (hstep : ∀ (i : Nat) f W, fs[i]? = some f → P i W → Calls Tryz.prog f.1 (f.2.1 ++ f.2.2) W fun e w' => ∃ v : Int, e = .returned (.int .i64 v) ∧ (v = 0 → P (i + 1) w') ∧ (v ≠ 0 → Q v w'))
    (hend : ∀ W, P n W → Q 0 W) (en : ∀ f ∈ fs, ∀ args w, (callFunc f.1 args).run Tryz.prog w = .ok (.enter f.1 args) w) :
    Calls Tryz.prog 58 #[.slice (some ⟨g, 0, none⟩) n c] w fun e w' => ∃ v : Int, e = .returned (.int .i64 v) ∧ Q v w' := by
  have HN := Lib.hid hn; have HC := Lib.hid hcell; have HST := Lib.hid hstep; have HE := Lib.hid hend; have HEN := Lib.hid en; have H0 := Lib.hid h0; clear hn hcell hstep hend en h0
  go_enter Tryz.func58, Tryz.ntmps58
  go_wp2_with fail
  go_loopw [8] (fun x wr => ∃ i : Nat, x = .int .i64 i ∧ i ≤ n ∧ Hid (P i wr)) (fun x _ => n - (intOf x).toNat)
  case atStart => exact ⟨0, rfl, by omega, H0⟩
  case round =>
    obtain ⟨i, rfl, hi, HP⟩ := hrel
    by_cases hlt : i < n
    · have hil : i < fs.length := by rw [HN.out]; exact hlt
      obtain ⟨f, hf⟩ : ∃ f, fs[i]? = some f := ⟨_, List.getElem?_eq_getElem hil⟩
      obtain ⟨hg, hcs⟩ := HC.out i wr HP.out; have hc := hcs i f hf; have en := HEN.out f (List.mem_of_getElem? hf); have HS := Lib.hid (HST.out i f wr hf HP.out); obtain ⟨fn, bd, cp⟩ := f; have hilt : (i : Int) < n := by omega
      dsimp only at hc en HS
      clear hf hcs
      go_wp2_with fail
      refine HS.out.mono ?_
      rintro e w2 ⟨v, rfl, hz, hnz⟩
      by_cases hv : v = 0
      · subst hv
        have HP2 := Lib.hid (hz rfl); clear hz hnz hc en
        go_wp2_with fail
        exact ⟨⟨i + 1, by congr 1, by omega, HP2⟩, by simp only [intOf]; omega⟩
      have HQ := Lib.hid (hnz hv); have hne : (v == 0) = false := beq_eq_false_iff_ne.2 hv
      clear hz hnz hv hc en
      go_wp2_with fail
      go_ret
      exact ⟨v, rfl, HQ.out⟩
    obtain rfl : i = n := by omega
    go_wp2_with fail
    go_ret
    exact ⟨0, rfl, HE.out _ HP.out⟩
section
variable (p n gd gb gt : Nat) (G : Geo) (D : PDisk) (W : World)
set_option maxRecDepth 100000 in
theorem save1_any (b text : ByteArray) (h : DS W p G D n) (hn : n ≤ 1000000) (hs : b.size ≤ 1000000) (hd : Blk W gd 25 #[.pointer (some ⟨p, 0, none⟩)]) (hb : Blk W gb 9 #[.string b]) (ht : Blk W gt 9 #[.string text]) :
    Calls Tryz.prog 59 #[.pointer (some ⟨gd, 0, none⟩), .pointer (some ⟨gb, 0, none⟩), .pointer (some ⟨gt, 0, none⟩)] W fun e w' => e = .returned (.int .i64 (D.write b text 384).1) ∧ DSTo W p G.parts w' (D.write b text 384).2 (n + 2) := by
  have HC := Lib.hid (dwrite_call p n G D b text 384 W h hn (by omega)); have hc1 := hd.cell; have hc2 := hb.cell; have hc3 := ht.cell; have hl1 := hd.lt; have hl2 := hb.lt; have hl3 := ht.lt; clear h hd hb ht
  go_enter Tryz.func59, Tryz.ntmps59
  go_wp2_with fail
  refine HC.out.mono ?_
  rintro e w2 ⟨rfl, hT⟩; have HT := Lib.hid hT; clear hT
  go_wp2_with fail
  go_ret
  exact ⟨rfl, HT.out⟩
set_option maxRecDepth 100000 in
theorem save2_any (b : ByteArray) (h : DS W p G D n) (hn : n ≤ 1000000) (hs : b.size ≤ 1000000) (hd : Blk W gd 25 #[.pointer (some ⟨p, 0, none⟩)]) (hb : Blk W gb 9 #[.string b]) :
    Calls Tryz.prog 60 #[.pointer (some ⟨gd, 0, none⟩), .pointer (some ⟨gb, 0, none⟩)] W fun e w' => e = .returned (.int .i64 (D.sync b).1) ∧ DSTo W p G.parts w' (D.sync b).2 (n + 2) := by
  have HC := Lib.hid (dsync_call p n G D b W h hn (by omega)); have hc1 := hd.cell; have hc2 := hb.cell; have hl1 := hd.lt; have hl2 := hb.lt; clear h hd hb
  go_enter Tryz.func60, Tryz.ntmps60
  go_wp2_with fail
  refine HC.out.mono ?_
  rintro e w2 ⟨rfl, hT⟩; have HT := Lib.hid hT; clear hT
  go_wp2_with fail
  go_ret
  exact ⟨rfl, HT.out⟩
set_option maxRecDepth 100000 in
theorem save3_any (b path : ByteArray) (h : DS W p G D n) (hn : n ≤ 1000000) (hs : b.size ≤ 1000000) (hp : path.size ≤ 1000000) (hd : Blk W gd 25 #[.pointer (some ⟨p, 0, none⟩)]) (hb : Blk W gb 9 #[.string b]) (ht : Blk W gt 9 #[.string path]) :
    Calls Tryz.prog 61 #[.pointer (some ⟨gd, 0, none⟩), .pointer (some ⟨gb, 0, none⟩), .pointer (some ⟨gt, 0, none⟩)] W fun e w' => e = .returned (.int .i64 (D.replace b path).1) ∧ DSTo W p G.parts w' (D.replace b path).2 (n + 2) := by
  have HC := Lib.hid (dreplace_call p n G D b path W h hn (by omega) (by omega)); have hc1 := hd.cell; have hc2 := hb.cell; have hc3 := ht.cell; have hl1 := hd.lt; have hl2 := hb.lt; have hl3 := ht.lt; clear h hd hb ht
  go_enter Tryz.func61, Tryz.ntmps61
  go_wp2_with fail
  refine HC.out.mono ?_
  rintro e w2 ⟨rfl, hT⟩; have HT := Lib.hid hT; clear hT
  go_wp2_with fail
  go_ret
  exact ⟨rfl, HT.out⟩
end
theorem EN1 : ∀ args w, (callFunc 59 args).run Tryz.prog w = .ok (.enter 59 args) w := enters_of Tryz.func59 (by kernel_rfl) rfl
theorem EN2 : ∀ args w, (callFunc 60 args).run Tryz.prog w = .ok (.enter 60 args) w := enters_of Tryz.func60 (by kernel_rfl) rfl
theorem EN3 : ∀ args w, (callFunc 61 args).run Tryz.prog w = .ok (.enter 61 args) w := enters_of Tryz.func61 (by kernel_rfl) rfl
theorem ENF : ∀ args w, (callFunc 19 args).run Tryz.prog w = .ok (.enter 19 args) w := enters_of Tryz.func19 (by kernel_rfl) rfl
theorem ENC1 : ∀ args w, (callFunc 63 args).run Tryz.prog w = .ok (.enter 63 args) w := enters_of Tryz.func63 (by kernel_rfl) rfl
theorem DSTo.keep {w w' : World} {p n : Nat} {L : List Nat} {D : PDisk} (h : DSTo w p L w' D n) {g : Nat} {t : TypeId} {cs : Array Value} (hB : Blk w g t cs) (hg : g ∉ p :: L) : Blk w' g t cs := by
  obtain ⟨_, _, ho, _⟩ := h; exact hB.off ho hg
def SaveAt (Wb : World) (p n : Nat) (L : List Nat) (D : PDisk) (b path text : ByteArray) : Nat → World → Prop
  | 0, W => DSTo Wb p L W D n
  | 1, W => (D.write b text 384).1 = 0 ∧ DSTo Wb p L W (D.write b text 384).2 (n + 2)
  | 2, W => (D.write b text 384).1 = 0 ∧ ((D.write b text 384).2.sync b).1 = 0 ∧ DSTo Wb p L W ((D.write b text 384).2.sync b).2 (n + 4)
  | 3, W => (D.write b text 384).1 = 0 ∧ ((D.write b text 384).2.sync b).1 = 0 ∧ (((D.write b text 384).2.sync b).2.replace b path).1 = 0 ∧ DSTo Wb p L W (((D.write b text 384).2.sync b).2.replace b path).2 (n + 6)
  | _, W => (D.write b text 384).1 = 0 ∧ ((D.write b text 384).2.sync b).1 = 0 ∧ (((D.write b text 384).2.sync b).2.replace b path).1 = 0 ∧ (((D.write b text 384).2.sync b).2.replace b path).2.flush.1 = 0 ∧ DSTo Wb p L W (((D.write b text 384).2.sync b).2.replace b path).2.flush.2 (n + 8)
theorem SaveAt.to {Wb W : World} {p n i : Nat} {L : List Nat} {D : PDisk} {b path text : ByteArray} (h : SaveAt Wb p n L D b path text i W) : ∃ D' n', DSTo Wb p L W D' n' := by
  match i, h with
  | 0, h => exact ⟨_, _, h⟩
  | 1, h => exact ⟨_, _, h.2⟩
  | 2, h => exact ⟨_, _, h.2.2⟩
  | 3, h => exact ⟨_, _, h.2.2.2⟩
  | i + 4, h => exact ⟨_, _, h.2.2.2.2⟩
set_option maxRecDepth 100000 in
set_option maxHeartbeats 8000000 in
theorem dsave_call (p n : Nat) (G : Geo) (D : PDisk) (path text : ByteArray) (w : World) (h : DS w p G D n) (hn : n ≤ 100000) (hs : path.size ≤ 100000) :
    Calls Tryz.prog 22 #[.pointer (some ⟨p, 0, none⟩), .string path, .string text] w fun e w' => e = .returned (.int .i64 (D.save path text).1) ∧ DSTo w p G.parts w' (D.save path text).2 (n + 8) := by
  have H := Lib.hid h; obtain ⟨b, hb⟩ : ∃ b, besideP path = b := ⟨_, rfl⟩
  have HBS := Lib.hid (show b.size ≤ 1000000 by rw [← hb, beside_size]; omega); have HBE := Lib.hid (fun (W : World) => beside_any path W (by omega)); rw [hb] at HBE
  have HSV := Lib.hid (show D.save path text = if (D.write b text 384).1 ≠ 0 then D.write b text 384 else if ((D.write b text 384).2.sync b).1 ≠ 0 then (D.write b text 384).2.sync b else if (((D.write b text 384).2.sync b).2.replace b path).1 ≠ 0 then ((D.write b text 384).2.sync b).2.replace b path else (((D.write b text 384).2.sync b).2.replace b path).2.flush by
    unfold PDisk.save; rw [hb])
  clear h hb
  go_enter Tryz.func22, Tryz.ntmps22
  go_wp2_with fail
  have hb1 : Blk (((w.alloc (.cells #[.pointer (some ⟨p, 0, none⟩)] 25)).alloc (.cells #[.string path] 9)).alloc (.cells #[.string text] 9)) w.heap.size 25 #[.pointer (some ⟨p, 0, none⟩)] := ((Blk.new w _ _).alloc _).alloc _
  have hb2 : Blk (((w.alloc (.cells #[.pointer (some ⟨p, 0, none⟩)] 25)).alloc (.cells #[.string path] 9)).alloc (.cells #[.string text] 9)) (w.heap.size + 1) 9 #[.string path] := (Blk.new1 w _ _ _).alloc _
  have hb3 : Blk (((w.alloc (.cells #[.pointer (some ⟨p, 0, none⟩)] 25)).alloc (.cells #[.string path] 9)).alloc (.cells #[.string text] 9)) (w.heap.size + 1 + 1) 9 #[.string text] := Blk.new2 w _ _ _ _
  refine (HBE.out _).mono ?_
  rintro e w1 ⟨rfl, ho1⟩; have HB1 := Lib.hid (hb1.off ho1 (by simp)); have HB2 := Lib.hid (hb2.off ho1 (by simp)); have HB3 := Lib.hid (hb3.off ho1 (by simp)); have HO1 := Lib.hid (show Off [] w w1 from ((((Off.refl _ _).alloc _).alloc _).alloc _).trans_nil ho1); clear hb1 hb2 hb3 ho1
  go_upto_region 2 with fail
  refine code_gen (fun W => Blk W w.heap.size 25 #[.pointer (some ⟨p, 0, none⟩)] ∧ Blk W (w.heap.size + 1) 9 #[.string path] ∧ Blk W (w.heap.size + 1 + 1) 9 #[.string text] ∧ Blk W w1.heap.size 9 #[.string b] ∧ Off [] w W)
    ⟨HB1.out.alloc _, HB2.out.alloc _, HB3.out.alloc _, Blk.new w1 _ _, HO1.out.alloc _⟩ ?_
  rintro Wx ⟨k1, k2, k3, k4, ko⟩
  obtain ⟨Wb, hWb⟩ : ∃ Wb, Wx.alloc (.cells #[.func (.func 59) #[] #[.pointer (some ⟨w.heap.size, 0, none⟩), .pointer (some ⟨w1.heap.size, 0, none⟩), .pointer (some ⟨w.heap.size + 1 + 1, 0, none⟩)], .func (.func 60) #[] #[.pointer (some ⟨w.heap.size, 0, none⟩), .pointer (some ⟨w1.heap.size, 0, none⟩)], .func (.func 61) #[] #[.pointer (some ⟨w.heap.size, 0, none⟩), .pointer (some ⟨w1.heap.size, 0, none⟩), .pointer (some ⟨w.heap.size + 1, 0, none⟩)], .func (.func 19) #[.pointer (some ⟨p, 0, none⟩)] #[]] 37) = Wb := ⟨_, rfl⟩
  have hbs : Blk Wb Wx.heap.size 37 #[.func (.func 59) #[] #[.pointer (some ⟨w.heap.size, 0, none⟩), .pointer (some ⟨w1.heap.size, 0, none⟩), .pointer (some ⟨w.heap.size + 1 + 1, 0, none⟩)], .func (.func 60) #[] #[.pointer (some ⟨w.heap.size, 0, none⟩), .pointer (some ⟨w1.heap.size, 0, none⟩)], .func (.func 61) #[] #[.pointer (some ⟨w.heap.size, 0, none⟩), .pointer (some ⟨w1.heap.size, 0, none⟩), .pointer (some ⟨w.heap.size + 1, 0, none⟩)], .func (.func 19) #[.pointer (some ⟨p, 0, none⟩)] #[]] := by rw [← hWb]; exact Blk.new Wx _ _
  have hob : Off [] Wx Wb := by rw [← hWb]; exact (Off.refl _ _).alloc _
  have hW : Off [] w Wb := ko.trans_nil hob
  have hfar : ∀ g, w.heap.size ≤ g → g ∉ p :: G.parts := fun g hg hm => by
    rcases List.mem_cons.1 hm with rfl | hm
    · have := H.out.m.blk.lt; omega
    have := H.out.m.parts.lt hm; omega
  have hw1 : w.heap.size ≤ w1.heap.size := HO1.out.size
  have hwx : w.heap.size ≤ Wx.heap.size := ko.size
  have k1b := k1.off hob (by simp); have k2b := k2.off hob (by simp); have k3b := k3.off hob (by simp); have k4b := k4.off hob (by simp)
  have HU := Lib.hid (until_any Wx.heap.size 4 4 [(59, #[], #[.pointer (some ⟨w.heap.size, 0, none⟩), .pointer (some ⟨w1.heap.size, 0, none⟩), .pointer (some ⟨w.heap.size + 1 + 1, 0, none⟩)]), (60, #[], #[.pointer (some ⟨w.heap.size, 0, none⟩), .pointer (some ⟨w1.heap.size, 0, none⟩)]), (61, #[], #[.pointer (some ⟨w.heap.size, 0, none⟩), .pointer (some ⟨w1.heap.size, 0, none⟩), .pointer (some ⟨w.heap.size + 1, 0, none⟩)]), (19, #[.pointer (some ⟨p, 0, none⟩)], #[])]
    (SaveAt Wb p n G.parts D b path text) (fun v W => v = (D.save path text).1 ∧ DSTo Wb p G.parts W (D.save path text).2 (n + 8)) Wb rfl (by decide) ((H.out.off hW).refl)
    (fun i W hP => by
      obtain ⟨D', n', hT⟩ := hP.to; have hB := hT.keep hbs (hfar _ hwx); refine ⟨hB.lt, fun j f hj => ?_⟩; rw [hB.cell]
      match j, hj with
      | 0, hj => cases hj; rfl
      | 1, hj => cases hj; rfl
      | 2, hj => cases hj; rfl
      | 3, hj => cases hj; rfl
      | j + 4, hj => simp at hj)
    (fun i f W hf hP => by
      match i, hf, hP with
      | 0, hf, hP =>
        cases hf
        have hT : DSTo Wb p G.parts W D n := hP
        obtain ⟨G1, h1, ho, hp⟩ := hT; refine (save1_any p n _ _ _ G1 D W b text h1 (by omega) HBS.out (k1b.off ho (hfar _ (Nat.le_refl _))) (k4b.off ho (hfar _ hw1)) (k3b.off ho (hfar _ (by omega)))).mono ?_; rintro e w' ⟨rfl, hT2⟩; have hT3 := DSTo.step ho hp hT2; refine ⟨_, rfl, fun hv => ⟨hv, hT3⟩, fun hv => ?_⟩; rw [HSV.out, if_pos hv]; exact ⟨rfl, hT3.le (by omega)⟩
      | 1, hf, hP =>
        cases hf
        obtain ⟨e1, hT⟩ : (D.write b text 384).1 = 0 ∧ DSTo Wb p G.parts W (D.write b text 384).2 (n + 2) := hP
        obtain ⟨G1, h1, ho, hp⟩ := hT; refine (save2_any p (n + 2) _ _ G1 _ W b h1 (by omega) HBS.out (k1b.off ho (hfar _ (Nat.le_refl _))) (k4b.off ho (hfar _ hw1))).mono ?_; rintro e w' ⟨rfl, hT2⟩; have hT3 := DSTo.step ho hp hT2; refine ⟨_, rfl, fun hv => ⟨e1, hv, hT3⟩, fun hv => ?_⟩; rw [HSV.out, if_neg (by rw [e1]; decide), if_pos hv]; exact ⟨rfl, hT3.le (by omega)⟩
      | 2, hf, hP =>
        cases hf
        obtain ⟨e1, e2, hT⟩ : (D.write b text 384).1 = 0 ∧ ((D.write b text 384).2.sync b).1 = 0 ∧ DSTo Wb p G.parts W ((D.write b text 384).2.sync b).2 (n + 4) := hP
        obtain ⟨G1, h1, ho, hp⟩ := hT; refine (save3_any p (n + 4) _ _ _ G1 _ W b path h1 (by omega) HBS.out (by omega) (k1b.off ho (hfar _ (Nat.le_refl _))) (k4b.off ho (hfar _ hw1)) (k2b.off ho (hfar _ (by omega)))).mono ?_; rintro e w' ⟨rfl, hT2⟩; have hT3 := DSTo.step ho hp hT2; refine ⟨_, rfl, fun hv => ⟨e1, e2, hv, hT3⟩, fun hv => ?_⟩
        rw [HSV.out, if_neg (by rw [e1]; decide), if_neg (by rw [e2]; decide), if_pos hv]; exact ⟨rfl, hT3.le (by omega)⟩
      | 3, hf, hP =>
        cases hf
        obtain ⟨e1, e2, e3, hT⟩ : (D.write b text 384).1 = 0 ∧ ((D.write b text 384).2.sync b).1 = 0 ∧ (((D.write b text 384).2.sync b).2.replace b path).1 = 0 ∧ DSTo Wb p G.parts W (((D.write b text 384).2.sync b).2.replace b path).2 (n + 6) := hP
        obtain ⟨G1, h1, ho, hp⟩ := hT; refine (flush_call p (n + 6) G1 _ W h1 (by omega)).mono ?_; rintro e w' ⟨rfl, hT2⟩; have hT3 := DSTo.step ho hp hT2; refine ⟨_, rfl, fun hv => ⟨e1, e2, e3, hv, hT3⟩, fun hv => ?_⟩; rw [HSV.out, if_neg (by rw [e1]; decide), if_neg (by rw [e2]; decide), if_neg (by rw [e3]; decide)]; exact ⟨rfl, hT3⟩
      | i + 4, hf, hP => simp at hf)
    (fun W hP => by
      obtain ⟨e1, e2, e3, e4, hT⟩ : (D.write b text 384).1 = 0 ∧ ((D.write b text 384).2.sync b).1 = 0 ∧ (((D.write b text 384).2.sync b).2.replace b path).1 = 0 ∧ (((D.write b text 384).2.sync b).2.replace b path).2.flush.1 = 0 ∧ DSTo Wb p G.parts W (((D.write b text 384).2.sync b).2.replace b path).2.flush.2 (n + 8) := hP
      rw [HSV.out, if_neg (by rw [e1]; decide), if_neg (by rw [e2]; decide), if_neg (by rw [e3]; decide)]; exact ⟨e4.symm, hT⟩)
    (fun f hf => by
      simp only [List.mem_cons, List.not_mem_nil, or_false] at hf
      rcases hf with rfl | rfl | rfl | rfl
      · exact EN1
      · exact EN2
      · exact EN3
      exact ENF))
  have HW := Lib.hid hW; have hc1 := k1.cell; have hl1 := k1.lt; clear k2 k3 k4 ko hbs hob hW hfar hw1 hwx k1b k2b k3b k4b k1 HSV HBE HB1 HB2 HB3
  go_wp2_with fail
  refine HU.out.mono ?_
  rintro e w2 ⟨v, rfl, rfl, hT⟩; have HT := Lib.hid hT; clear hT hc1 hl1
  go_wp2_with fail
  go_ret
  exact ⟨rfl, DSTo.step (G1 := G) (HW.out.mono (fun _ _ h => by simp at h)) (fun _ hb => .inl hb) HT.out⟩
set_option maxRecDepth 100000 in
set_option maxHeartbeats 8000000 in
theorem dload_call (p n : Nat) (G : Geo) (D : PDisk) (path : ByteArray) (w : World) (h : DS w p G D n) (hn : n ≤ 100000) (hs : path.size ≤ 100000) :
    Calls Tryz.prog 23 #[.pointer (some ⟨p, 0, none⟩), .string path] w fun e w' => e = .returned (.tuple #[.string (D.load path).1.1, .bool (D.load path).1.2.1, .int .i64 (D.load path).1.2.2]) ∧ DSTo w p G.parts w' (D.load path).2 (n + 1) := by
  have HG := Lib.hid (dget_call p n G D path w h (by omega) (by omega)); obtain ⟨r, hr⟩ : ∃ r, D.get path = r := ⟨_, rfl⟩
  have HL := Lib.hid (show D.load path = if r.1.1 = 74 then ((⟨#[]⟩, false, 0), r.2) else if r.1.1 ≠ 0 then ((⟨#[]⟩, false, r.1.1), r.2) else if r.1.2.1.kind ≠ 1 then ((⟨#[]⟩, false, 73), r.2) else ((r.1.2.1.data, true, 0), r.2) by
    unfold PDisk.load; rw [hr])
  rw [hr] at HG; clear h hr; obtain ⟨⟨er, nd, gi, gs, gt⟩, D2⟩ := r; unfold getVal at HG; dsimp only at HG HL
  go_enter Tryz.func23, Tryz.ntmps23
  go_wp2_with fail
  refine HG.out.mono ?_
  rintro e w2 ⟨rfl, hT⟩; have HT := Lib.hid (show DSTo w p G.parts ((w2.alloc (.cells #[.string nd.path, .int .i64 nd.kind, .string nd.data, .int .i64 nd.mode] 30)).alloc (.cells #[.int .i64 gi, .int .i64 gs, .int .i64 gt] 39)) D2 (n + 1) from (hT.off ((Off.refl _ _).alloc _)).off ((Off.refl _ _).alloc _)); clear hT HG
  by_cases h74 : er = 74
  · have hq : (er == 74) = true := by rw [h74]; rfl
    have HF := Lib.hid (show D.load path = ((⟨#[]⟩, false, 0), D2) by rw [HL.out, if_pos h74]); clear h74 HL
    go_wp2_with fail
    go_ret3
    rw [HF.out]; exact ⟨rfl, HT.out⟩
  have hq : (er == 74) = false := beq_eq_false_iff_ne.2 h74
  by_cases h0 : er = 0
  · have hq0 : (er == 0) = true := by rw [h0]; rfl
    by_cases hk : nd.kind = 1
    · have hqk : (nd.kind == 1) = true := by rw [hk]; rfl
      have HF := Lib.hid (show D.load path = ((nd.data, true, 0), D2) by rw [HL.out, if_neg h74, if_neg (by rw [h0]; decide), if_neg (by rw [hk]; decide)]); clear h74 h0 hk HL
      go_wp2_with fail
      go_ret3
      rw [HF.out]; exact ⟨rfl, HT.out⟩
    have hqk : (nd.kind == 1) = false := beq_eq_false_iff_ne.2 hk
    have HF := Lib.hid (show D.load path = ((⟨#[]⟩, false, 73), D2) by rw [HL.out, if_neg h74, if_neg (by rw [h0]; decide), if_pos hk]); clear h74 h0 hk HL
    go_wp2_with fail
    go_ret3
    rw [HF.out]; exact ⟨rfl, HT.out⟩
  have hq0 : (er == 0) = false := beq_eq_false_iff_ne.2 h0
  have HF := Lib.hid (show D.load path = ((⟨#[]⟩, false, er), D2) by rw [HL.out, if_neg h74, if_pos h0]); clear h74 h0 HL
  go_wp2_with fail
  go_ret3
  rw [HF.out]; exact ⟨rfl, HT.out⟩
set_option maxRecDepth 100000 in
theorem dsteps_call (p n : Nat) (G : Geo) (D : PDisk) (w : World) (h : DS w p G D n) : Calls Tryz.prog 31 #[.pointer (some ⟨p, 0, none⟩)] w fun e w' => e = .returned (.int .i64 D.trace.length) ∧ Off [] w w' := by
  obtain ⟨pt, ct, htv⟩ := row_len h.m.parts.trace; have hc := h.m.blk.cell; unfold diskCells at hc; rw [htv] at hc; generalize D.trace.length = T at hc ⊢; clear h htv
  go_enter Tryz.func31, Tryz.ntmps31
  go_wp2_with fail
  go_ret
  exact ⟨rfl, Off.refl _ _⟩
end
section
open PDisk
theorem crash_names (D : PDisk) (f : FateP) : (D.crash f).names = D.safe ∨ (D.crash f).names ∈ D.later := by
  show (match D.later[(min f.keep (D.later.length : Int)).toNat - 1]? with | some l => if 0 < min f.keep (D.later.length : Int) then l else D.safe | none => D.safe) = D.safe ∨ (match D.later[(min f.keep (D.later.length : Int)).toNat - 1]? with | some l => if 0 < min f.keep (D.later.length : Int) then l else D.safe | none => D.safe) ∈ D.later
  split
  · rename_i y hy
    split
    · exact .inr (List.mem_of_getElem? hy)
    exact .inl rfl
  exact .inl rfl
theorem crash_inode (D : PDisk) (f : FateP) (i : Nat) : (D.crash f).inode i = (D.inode i).map (tear f.torn) := by
  unfold PDisk.inode
  split
  · rfl
  show (D.inos.map (tear f.torn))[i - 1]? = _
  rw [List.getElem?_map]
section
variable (old new : ByteArray) (f : FateP)
variable {old new f}
end
end
section
open PDisk
section
variable {E : PDisk} {p q data : ByteArray} {mode : Int} {full : Bool}
end
theorem tear_kind (t : Int) (n : Ino) : (tear t n).node.kind = n.node.kind := by unfold tear; split <;> rfl
def newI (D : PDisk) : Nat := D.inos.length + 1
def nm1 (D : PDisk) (t : ByteArray) : NameL := putN D.names t (newI D)
def nm2 (D : PDisk) (p t : ByteArray) : NameL := delN (putN (nm1 D t) p (newI D)) t
section
variable {D : PDisk} {p t text : ByteArray} {f : FateP}
structure W1 (D E : PDisk) (p t text : ByteArray) (d : Bool) : Prop where
  names : E.names = nm1 D t
  safe : E.safe = D.names
  later : E.later = [nm1 D t]
  inos : ∃ tm, E.inos = D.inos ++ [⟨⟨⟨#[]⟩, 1, text, 384⟩, tm, d⟩]
  on : E.off = false
structure W3 (D E : PDisk) (p t text : ByteArray) : Prop where
  names : E.names = nm2 D p t
  safe : E.safe = D.names
  later : E.later = [nm1 D t, nm2 D p t]
  inos : ∃ tm, E.inos = D.inos ++ [⟨⟨⟨#[]⟩, 1, text, 384⟩, tm, false⟩]
  on : E.off = false
end
end
section
open Go.RowKit Go.Op Go.Maps
def Run (w0 w : World) (p : Nat) (D : PDisk) (n : Nat) : Prop := ∃ G, DS w p G D n ∧ Off [] w0 w ∧ w0.heap.size ≤ p ∧ ∀ b ∈ G.parts, w0.heap.size ≤ b
theorem Run.next {w0 w w' : World} {p n' : Nat} {D' : PDisk} {G : Geo} (ho : Off [] w0 w) (hp : w0.heap.size ≤ p) (hb : ∀ b ∈ G.parts, w0.heap.size ≤ b) (k : DSTo w p G.parts w' D' n') : Run w0 w' p D' n' := by
  obtain ⟨G', h1, h2, h3⟩ := k; refine ⟨G', h1, ho.trans h2 (fun x hx hm => ?_), hp, fun b hb' => ?_⟩
  · exfalso
    rcases List.mem_cons.1 hm with rfl | hm
    · omega
    have := hb x hm; omega
  rcases h3 b hb' with h | h
  · exact hb b h
  exact Nat.le_trans ho.size h
theorem Run.off {w0 w w' : World} {p n : Nat} {D : PDisk} (h : Run w0 w p D n) (ho : Off [] w w') : Run w0 w' p D n := by
  obtain ⟨G, h1, h2, h3, h4⟩ := h; exact ⟨G, h1.off ho, h2.trans_nil ho, h3, h4⟩
theorem Run.since {w0 w : World} {p n : Nat} {D : PDisk} (h : Run w0 w p D n) : Off [] w0 w := by obtain ⟨_, _, h2, _⟩ := h; exact h2
section
variable {w0 w : World} {p n : Nat} {D : PDisk}
end
theorem nmOf_look : ∀ (a : List Node) (i : Nat) (p : ByteArray), lookN (nmOf a i) p ≤ i + a.length ∧ (hasN (nmOf a i) p = true → i + 1 ≤ lookN (nmOf a i) p)
  | [], i, p => ⟨Nat.zero_le _, fun h => by simp [nmOf, hasN] at h⟩
  | n :: a, i, p => by
    obtain ⟨h1, h2⟩ := nmOf_look a (i + 1) p; unfold nmOf lookN
    by_cases e : n.path = p
    · rw [if_pos e]
      exact ⟨by simp only [List.length_cons]; omega, fun _ => Nat.le_refl _⟩
    rw [if_neg e]; refine ⟨by simp only [List.length_cons]; omega, fun h => ?_⟩; have := h2 (by simpa [hasN, e] using h); omega
theorem newD_ok {t : List Node} (hok : okTree t = true) : Ok (newD t) 0 := by
  have hl := okTree_len hok; have hN : NOk (newD t).inos.length (nmOf t 0) := fun x => by
    obtain ⟨h1, h2⟩ := nmOf_look t 0 x; refine ⟨by simp [newD, newD']; omega, fun h => ⟨by have := h2 h; omega, ?_⟩⟩; obtain ⟨n, hn, rfl⟩ := (nmOf_has _ _ _).1 h; exact okTree_small hok hn
  exact ⟨hN, hN, fun l hl => by simp [newD, newD'] at hl, by simp [newD, newD'], by simp [newD, newD']; omega, by simp [newD, newD'], by simp [newD, newD'], by simp [newD, newD'], by simp [newD, newD', nmOf_len]; omega, by simp [newD, nmOf_len]; omega, fun l hl => by simp [newD, newD'] at hl⟩
theorem run_new (fp : Option Addr) (t : List Node) (n c : Nat) (w0 w : World) (hof : Off [] w0 w) (hT : Tabs w0) (hR : Row w fp t) (hn : t.length = n) (hc : n ≤ c) (hok : okTree t = true) (hF : Fits t) :
    Calls Tryz.prog 14 #[.slice fp n c] w fun e w' => ∃ gd, e = .returned (.tuple #[.pointer (some ⟨gd, 0, none⟩), .int .i64 0]) ∧ Run w0 w' gd (newD t) 0 := by
  refine (dnew_ok fp t n c w hR hn hc hok hF (hT.off hof)).mono ?_
  rintro e w' ⟨gd, G, he, hM, hgd, hpl, hsb, ho⟩; have h1 := Nat.le_trans hof.size hgd; have h2 : ∀ b ∈ G.parts, w0.heap.size ≤ b := fun b hb => Nat.le_trans hof.size (hpl b hb)
  exact ⟨gd, he, G, ⟨hM, hsb, newD_ok hok, TabsX.of hT (hof.trans_nil ho) h1 h2, rfl⟩, hof.trans_nil ho, h1, h2⟩
end
section
open Go.RowKit Go.Op Go.Maps
def nmA : ByteArray := ⟨#[97]⟩
end
section
open PDisk
def tA : ByteArray := ⟨#[97, 126]⟩
theorem besA : besideP nmA = tA := by decide +kernel
section
variable {D E : PDisk} {p t text : ByteArray}
end
section
variable {old text : ByteArray} {f : FateP}
end
end
end Go.Proofs.YtgcfkljooabjjaaGreatDoor
