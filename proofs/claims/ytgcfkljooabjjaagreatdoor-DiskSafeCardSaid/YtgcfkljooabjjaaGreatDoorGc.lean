/- Texts of this claim, one behind the other: DChg DLay DLay2 DCrash DFind DStep DFlush DWf DSt DNew Rune Ref. Conditions: what each lemma states. -/
import Derived.Test.YtgcfkljooabjjaaGreatDoorGb
import Derived.Shelf.Abstract
import Derived.Deep.RegionLaw
import Derived.Deep.RegionHeld3
import Derived.ArgAppend
import Derived.BigRegion
import Derived.Deep.RegionLawGrows
import Derived.Carry
import Derived.Test.YtgcfkljooabjjaaGreatDoorGa
import Derived.Lib.ValidLaws
/- A disk's change: the walk. Conditions: what the contract states. -/
namespace Go.Proofs.YtgcfkljooabjjaaGreatDoor
open Go.RowKit Go.Op Go.Maps

theorem dchg_end {w W w2 w3 : World} {p k gg cap : Nat} {G G' : Geo} {D D1 : PDisk} {o : Obj} (hM : DiskM w p G D) (hOS : Off [p] w W) (hM2 : DiskM w2 p G' D1) (hO2 : Off (p :: w.heap.size :: G.rest) W w2) (hP2 : ∀ b ∈ G'.rest, b ∈ G.rest ∨ W.heap.size ≤ b) (hnb : G'.nb = w.heap.size)
    (hg : (w2.alloc o).drew.grownBy w3 G'.lv.ownBlock) (hown : w3.ownsRow 0 95 1 (.slice (some ⟨gg, 0, none⟩) (k + 1) cap) (k + 1) ((G'.lb.map fun b => .map (some b)) ++ [.map (some G'.nb)])) (hat : G'.lv.ownBlock = some gg ∨ gg = w2.heap.size + 1) (hK : D1.later.length = k) (hsb : G'.sb.isSome = true) :
    DiskTo w p G.parts (w3.setCell ⟨p, 2, none⟩ (.slice (some ⟨gg, 0, none⟩) (k + 1) cap)) { D1 with later := D1.later ++ [D1.names] } := by
  have hlr : ∀ b ∈ G'.lv.ownBlock.toList, b ∈ G'.rest := fun b hb => mem_rest.2 (.inr (.inr (.inr (.inr (.inl hb)))))
  have ho3 : Off G'.lv.ownBlock.toList w2 w3 := ((Off.refl _ w2).alloc o).drew.grown hg (fun x hx => .inr (by rw [hx]; simp))
  have hP := hM2.parts.pushed (lv := .slice (some ⟨gg, 0, none⟩) (k + 1) cap) ho3 (fun b hb _ => hb) (by rw [hK]; exact hown)
  have hpl : p ∉ G'.lv.ownBlock.toList := fun h => hM2.far (List.mem_cons_of_mem _ (hlr p h))
  have hB3 := hM2.blk.off ho3 hpl
  have hOW : Off (p :: G.parts) w w2 := by
    refine (hOS.mono (fun x _ h => by simp at h; subst h; exact List.mem_cons_self ..)).trans hO2 (fun x hx h => ?_)
    simp only [List.mem_cons] at h
    rcases h with rfl | rfl | h
    · exact List.mem_cons_self ..
    · omega
    · exact List.mem_cons_of_mem _ (List.mem_cons_of_mem _ h)
  have hOW3 : Off (p :: G.parts) w w3 := hOW.trans ho3 (fun x hx h => by
    rcases hP2 x (hlr x h) with h | h
    · exact List.mem_cons_of_mem _ (List.mem_cons_of_mem _ h)
    · have := hOS.size; omega)
  refine ⟨_, ⟨?_, hP.off (k := [p]) ((Off.refl [p] w3).setCell (.inr (by simp)) _) (fun b hb h => ?_)⟩, hOW3.setCell (.inr (by simp)) _, fun b hb => ?_, hsb⟩
  · have := hB3.set_ 2 (.slice (some ⟨gg, 0, none⟩) (k + 1) cap)
    unfold diskCells at this ⊢
    simpa using this
  · simp at h
    subst h
    exact hP.far hB3 (by decide) hb
  · have hsz := hOS.size
    have hsz2 := hOW.size
    have key : b ∈ G'.rest ∨ b = G'.nb ∨ b = gg := by
      rcases List.mem_cons.1 hb with rfl | hb
      · exact .inr (.inl rfl)
      · rcases mem_rest.1 hb with hb | hb | hb | hb | hb | hb | hb
        · exact .inl (mem_rest.2 (.inl hb))
        · exact .inl (mem_rest.2 (.inr (.inl hb)))
        · rcases List.mem_append.1 hb with hb | hb
          · exact .inl (mem_rest.2 (.inr (.inr (.inl hb))))
          · simp at hb; exact .inr (.inl hb)
        · exact .inl (mem_rest.2 (.inr (.inr (.inr (.inl hb)))))
        · simp [Value.ownBlock] at hb; exact .inr (.inr hb)
        · exact .inl (mem_rest.2 (.inr (.inr (.inr (.inr (.inr (.inl hb)))))))
        · exact .inl (mem_rest.2 (.inr (.inr (.inr (.inr (.inr (.inr hb)))))))
    have old : ∀ b ∈ G'.rest, b ∈ G.parts ∨ w.heap.size ≤ b := fun b hb => by
      rcases hP2 b hb with h | h
      · exact .inl (List.mem_cons_of_mem _ h)
      · exact .inr (Nat.le_trans hsz h)
    rcases key with h | rfl | rfl
    · exact old b h
    · exact .inr (by omega)
    · rcases hat with h | h
      · exact old b (hlr b (by rw [h]; simp))
      · exact .inr (by omega)
set_option maxRecDepth 100000 in
set_option maxHeartbeats 8000000 in
theorem dchange_any (p : Nat) (G : Geo) (D D1 : PDisk) (g : Nat) (cb : Array Value) (w : World) (hM : DiskM w p G D) (hsb : G.sb.isSome = true) (hl : D1.later.length ≤ 1000000000)
    (eg : ∀ args w, (callFunc g args).run Tryz.prog w = .ok (.enter g args) w)
    (hturn : ∀ W : World, DiskM W p { G with nb := w.heap.size } D → Off [p] w W → Calls Tryz.prog g (#[.map (some w.heap.size)] ++ cb) W (TurnP p w.heap.size G D1 W)) :
    Calls Tryz.prog 55 #[.pointer (some ⟨p, 0, none⟩), .func (.func g) #[] cb] w fun e w' => e = .returned (.tuple #[]) ∧ DiskTo w p G.parts w' { D1 with later := D1.later ++ [D1.names] } := by
  obtain ⟨i0, hi, hz0, hz1, hz2⟩ := info_parts infoNames
  have HM := Lib.hid hM
  have HT := Lib.hid hturn
  have hc := hM.blk.cell
  have hf := hM.blk.frozen
  have hlt := hM.blk.lt
  have HC := Lib.hid (mclone_any G.nb D.names w hM.parts.names)
  unfold diskCells at hc
  clear hM hturn
  go_enter Tryz.func55, Tryz.ntmps55
  go_wp2_with fail
  refine HC.out.mono ?_
  rintro e w1 ⟨rfl, hN, ho⟩
  have hB1 := HM.out.blk.off ho (by simp)
  have hc1 := hB1.cell
  have hf1 := hB1.frozen
  have hl1 := hB1.lt
  unfold diskCells at hc1
  have hrl : w.heap.size ∉ G.rest := fun h => Nat.lt_irrefl _ (HM.out.parts.lt (List.mem_cons_of_mem _ h))
  have hoS : Off [p] w (w1.setCell ⟨p, 0, none⟩ (.map (some w.heap.size))) := (ho.mono (fun x _ h => by simp at h)).setCell (p := ⟨p, 0, none⟩) (.inr (by simp)) _
  have hM1 : DiskM (w1.setCell ⟨p, 0, none⟩ (.map (some w.heap.size))) p { G with nb := w.heap.size } D := by
    have hS : Off [p] w1 (w1.setCell ⟨p, 0, none⟩ (.map (some w.heap.size))) := (Off.refl [p] w1).setCell (p := ⟨p, 0, none⟩) (.inr (by simp)) _
    refine ⟨?_, ?_⟩
    · have := hB1.set_ 0 (.map (some w.heap.size))
      unfold diskCells at this ⊢
      simpa using this
    · have hfar := HM.out.far
      refine HM.out.parts.named hoS (fun b hb h => ?_) (hN.off hS ?_) hrl
      · simp at h; subst h; exact hfar (List.mem_cons_of_mem _ hb)
      · intro h; simp at h; omega
  have HM1 := Lib.hid hM1
  have HOS := Lib.hid hoS
  have HRL := Lib.hid hrl
  clear hN hrl hoS hM1 hc hf hlt HC
  go_wp2_with fail
  refine (HT.out _ HM1.out HOS.out).mono ?_
  rintro e w2 ⟨rfl, G', hnb, hsb2, hM2, hm2, ho2, hp2⟩
  have HSB := Lib.hid (show G'.sb.isSome = true by rw [hsb2]; exact hsb)
  have HM2 := Lib.hid hM2
  have HO2 := Lib.hid ho2
  have HP2 := Lib.hid hp2
  have HNB := Lib.hid hnb
  have hc2 := hM2.blk.cell
  have hf2 := hM2.blk.frozen
  have hl2 := hM2.blk.lt
  unfold diskCells at hc2
  have hpl : some p ≠ G'.lv.ownBlock := fun e => HM2.out.far (List.mem_cons_of_mem _ (mem_rest.2 (.inr (.inr (.inr (.inr (.inl (by rw [← e]; simp))))))))
  have HPL := Lib.hid hpl
  have hown : (w2.alloc (.cells #[.map (some G'.nb)] 95)).drew.ownsRow 0 95 1 G'.lv D1.later.length (G'.lb.map fun b => .map (some b)) :=
    own_offk (k := []) hM2.parts.later (((Off.refl [] w2).alloc _).drew) (by simp)
  obtain ⟨k, hk⟩ : ∃ k, D1.later.length = k := ⟨_, rfl⟩
  have HK := Lib.hid hk
  rw [hk] at hown hl
  have HW := Lib.hid hown
  clear hM2 ho2 hp2 hm2 hc1 hf1 hl1 hB1 HM1 hpl hk hnb hown hsb2 hsb
  go_wp2_with fail
  go_region_law ((refine step_append_lies _ (by rfl) _ _ _ (by rfl) 0 95 i0 (.map none) 1 8 Tryz.underlying97 hi hz0 hz1 hz2 rfl (by decide) _ k _ (by rfl) HW.out ⟨w2.heap.size, 0, none⟩ 1 1 [_] (by rfl) (by rfl) (cell_one_at (Blk.new w2 _ _)) (by simp [Value.oneCell']) (by omega) (by unfold maxLen; omega) (by omega) (by simp) (w2.heap.size + 1) (by simp) ?_; intro gg cap w3 hown3 hgrow3 hat3 hlt3; have hB3 := ((HM2.out.blk.alloc _).drew).grown hgrow3 HPL.out; have hc3 := hB3.cell; have hf3 := hB3.frozen; unfold diskCells at hc3))
  go_wp2_with fail
  all_goals refine bodyPost_end (results_none rfl _ _ _) rfl ?_
  all_goals exact ⟨rfl, dchg_end HM.out HOS.out HM2.out HO2.out HP2.out HNB.out (by assumption) (by assumption) (by assumption) HK.out HSB.out⟩
end Go.Proofs.YtgcfkljooabjjaaGreatDoor

/- A disk's lay and its closure: the walks. Conditions: what each contract states. -/
namespace Go.Proofs.YtgcfkljooabjjaaGreatDoor
open Go.RowKit Go.Op Go.Maps

/-- a name is stored -/
theorem NMat.add {w : World} {b : Nat} {l : NameL} (h : NMat w b l) (hl : l.length ≤ 1000000000) (p : ByteArray) (hp : p.size ≤ maxLen) (x : Int) (i : Nat) (hx : x = i) (hi : i ≤ 4611686018427387904) :
    ∃ w', (Instr.mapUpdate 95 (.map (some b)) (.string p) (.int .i64 x)).run Tryz.prog w = .ok () w' ∧ NMat w' b (putN l p i) ∧ w.grownBy w' (some b) := by
  subst hx
  obtain ⟨ha, D, hD, hs, hr⟩ := h
  have hwf : (Lit.int .i64 (i : Int)).wf = true := WalkArith.wf_i64 (by omega)
  obtain ⟨w', hrun, hown, hg⟩ := hD.update strK Tryz.underlying95 (by unfold maxLen; omega) (WideMaps.keyOf_string_mk Tryz.underlying9 hp) (plainElem_int Tryz.underlying3 hwf)
  exact ⟨w', hrun, NMat.put ha hD hs hr p i hown, hg⟩
theorem turn_end {W wA wU : World} {p m q : Nat} {G : Geo} {D : PDisk} {n : Node} {t : Int} {b : Bool} {path : ByteArray} (hM : DiskM W p { G with nb := m } D) (hm : m ∉ G.rest)
    (hMA : DiskM wA p { { G with nb := m } with qs := G.qs ++ [q] } (D.make n t b)) (hoA : Off [p, G.ib] W wA) (hq : W.heap.size ≤ q) (hNU : NMat wU m (putN D.names path (D.inos.length + 1))) (hgU : wA.grownBy wU (some m)) :
    TurnP p m G { (D.make n t b) with names := putN D.names path (D.inos.length + 1) } W (.returned (.tuple #[])) wU := by
  have hmW := hM.parts.names.lt
  have hmr : m ∉ ({ { G with nb := m } with qs := G.qs ++ [q] } : Geo).rest := by
    intro h
    rcases mem_rest.1 h with h | h | h | h | h | h | h
    · exact hm (mem_rest.2 (.inl h))
    · exact hm (mem_rest.2 (.inr (.inl h)))
    · exact hm (mem_rest.2 (.inr (.inr (.inl h))))
    · rcases List.mem_append.1 h with h | h
      · exact hm (mem_rest.2 (.inr (.inr (.inr (.inl h)))))
      · simp at h; dsimp only at hmW; omega
    · exact hm (mem_rest.2 (.inr (.inr (.inr (.inr (.inl h))))))
    · exact hm (mem_rest.2 (.inr (.inr (.inr (.inr (.inr (.inl h)))))))
    · exact hm (mem_rest.2 (.inr (.inr (.inr (.inr (.inr (.inr h)))))))
  have hU : Off [m] wA wU := (Off.refl [m] wA).grown hgU (fun k hk => by cases hk; exact .inr (by simp))
  have hpm : p ≠ m := fun e => hM.far (by rw [e]; exact List.mem_cons_self ..)
  refine ⟨rfl, { { G with nb := m } with qs := G.qs ++ [q] }, rfl, rfl, ⟨hMA.blk.off hU (by simpa using hpm), hMA.parts.named hU (fun x hx h => ?_) hNU hmr⟩, hmr, ?_, fun x hx => ?_⟩
  · simp at h; subst h; exact hmr hx
  · refine (hoA.mono (fun x _ h => ?_)).trans hU (fun x _ h => ?_)
    · simp at h
      rcases h with rfl | rfl
      · exact List.mem_cons_self ..
      · exact List.mem_cons_of_mem _ (List.mem_cons_of_mem _ (mem_rest.2 (.inr (.inl rfl))))
    · simp at h; subst h; exact List.mem_cons_of_mem _ (List.mem_cons_self ..)
  · rcases mem_rest.1 hx with h | h | h | h | h | h | h
    · exact .inl (mem_rest.2 (.inl h))
    · exact .inl (mem_rest.2 (.inr (.inl h)))
    · exact .inl (mem_rest.2 (.inr (.inr (.inl h))))
    · rcases List.mem_append.1 h with h | h
      · exact .inl (mem_rest.2 (.inr (.inr (.inr (.inl h)))))
      · simp at h; subst h; exact .inr hq
    · exact .inl (mem_rest.2 (.inr (.inr (.inr (.inr (.inl h))))))
    · exact .inl (mem_rest.2 (.inr (.inr (.inr (.inr (.inr (.inl h)))))))
    · exact .inl (mem_rest.2 (.inr (.inr (.inr (.inr (.inr (.inr h)))))))
set_option maxRecDepth 100000 in
set_option maxHeartbeats 8000000 in
theorem layc_any (p m gd gn gp : Nat) (G : Geo) (D : PDisk) (path : ByteArray) (n : Node) (W : World) (hM : DiskM W p { G with nb := m } D) (hm : m ∉ G.rest) (hl : D.inos.length ≤ 1152921504606846976) (hn : D.names.length ≤ 1000000000) (hs : path.size ≤ maxLen)
    (hd : Blk W gd 25 #[.pointer (some ⟨p, 0, none⟩)]) (hnd : Blk W gn 30 #[.string n.path, .int .i64 n.kind, .string n.data, .int .i64 n.mode]) (hp : Blk W gp 9 #[.string path]) :
    Calls Tryz.prog 95 #[.map (some m), .pointer (some ⟨gd, 0, none⟩), .pointer (some ⟨gn, 0, none⟩), .pointer (some ⟨gp, 0, none⟩)] W
      (TurnP p m G { (D.make n D.clock (decide (n.kind = 1))) with names := putN D.names path (D.inos.length + 1) } W) := by
  have HM := Lib.hid hM
  have HMM := Lib.hid hm
  have HS := Lib.hid hs
  have HN := Lib.hid hn
  have HL := Lib.hid hl
  have hcd := hd.cell
  have hcn := hnd.cell
  have hcp := hp.cell
  have HP := Lib.hid hp
  have hld := hd.lt
  have hln := hnd.lt
  have hlp := hp.lt
  have hc := hM.blk.cell
  unfold diskCells at hc
  clear hM hm hs hn hl
  go_enter Tryz.func95, Tryz.ntmps95
  go_wp2_with fail
  have HMd := Lib.hid HM.out.drew
  have HP0 := Lib.hid hp.drew
  have HD0 := Lib.hid hd.drew
  have HN0 := Lib.hid hnd.drew
  have hS : (∀ i, W.drew.cell? ⟨gp, i, none⟩ = (#[.string path] : Array Value)[i]?) ∧ (∀ i, W.drew.cell? ⟨gd, i, none⟩ = (#[.pointer (some ⟨p, 0, none⟩)] : Array Value)[i]?) ∧ (∀ i, W.drew.cell? ⟨gn, i, none⟩ = (#[.string n.path, .int .i64 n.kind, .string n.data, .int .i64 n.mode] : Array Value)[i]?) ∧ W.drew.cell? ⟨p, 6, none⟩ = some (.int .i64 D.clock) :=
    ⟨hp.drew.cell, hd.drew.cell, hnd.drew.cell, by have := HM.out.drew.blk.cell 6; simpa [diskCells] using this⟩
  have KEEP := Lib.hid (show ∀ (wA wU : World) (q : Nat), DiskM wA p { { G with nb := m } with qs := G.qs ++ [q] } (D.make n D.clock (decide (n.kind = 1))) → Off [p, G.ib] W.drew wA → wA.grownBy wU (some m) →
      ((∀ i, wA.cell? ⟨gp, i, none⟩ = (#[.string path] : Array Value)[i]?) ∧ (∀ i, wA.cell? ⟨gd, i, none⟩ = (#[.pointer (some ⟨p, 0, none⟩)] : Array Value)[i]?) ∧ (∀ i, wA.cell? ⟨gn, i, none⟩ = (#[.string n.path, .int .i64 n.kind, .string n.data, .int .i64 n.mode] : Array Value)[i]?) ∧ wA.cell? ⟨p, 6, none⟩ = some (.int .i64 D.clock)) ∧
      (∀ i, wU.cell? ⟨gp, i, none⟩ = (#[.string path] : Array Value)[i]?) ∧ (∀ i, wU.cell? ⟨gd, i, none⟩ = (#[.pointer (some ⟨p, 0, none⟩)] : Array Value)[i]?) ∧ (∀ i, wU.cell? ⟨gn, i, none⟩ = (#[.string n.path, .int .i64 n.kind, .string n.data, .int .i64 n.mode] : Array Value)[i]?) ∧ wU.cell? ⟨p, 6, none⟩ = some (.int .i64 D.clock) from
    fun wA wU q hMA hoA hgU => by
      have hib := HMd.out.parts.ino.isMap
      have hmb := HMd.out.parts.names.isMap
      have nb : ∀ {g : Nat} {t : TypeId} {cs : Array Value}, Blk W.drew g t cs → t ≠ 99 → g ∉ [p, G.ib] ∧ some g ≠ some m := fun {g t cs} hB ht => ⟨fun h => by
        simp at h
        rcases h with rfl | rfl
        · exact hB.ne_ HMd.out.blk ht rfl
        · exact hib.ne hB rfl, fun e => hmb.ne hB (by injection e with e; exact e.symm)⟩
      have h1 := HP0.out.off hoA (nb HP0.out (by decide)).1
      have h2 := HD0.out.off hoA (nb HD0.out (by decide)).1
      have h3 := HN0.out.off hoA (nb HN0.out (by decide)).1
      have h4 : some p ≠ some m := fun e => hmb.ne HMd.out.blk (by injection e with e; exact e.symm)
      have h5 := hMA.blk.grown hgU h4
      refine ⟨⟨h1.cell, h2.cell, h3.cell, ?_⟩, (h1.grown hgU (nb HP0.out (by decide)).2).cell, (h2.grown hgU (nb HD0.out (by decide)).2).cell, (h3.grown hgU (nb HN0.out (by decide)).2).cell, ?_⟩
      · have := hMA.blk.cell 6
        simpa [diskCells, PDisk.make] using this
      · have := h5.cell 6
        simpa [diskCells, PDisk.make] using this)
  clear hcd hcn hcp hc hd hnd hp hld hln hlp
  go_region_held3 (fun w' => (∀ i, w'.cell? ⟨gp, i, none⟩ = (#[.string path] : Array Value)[i]?) ∧ (∀ i, w'.cell? ⟨gd, i, none⟩ = (#[.pointer (some ⟨p, 0, none⟩)] : Array Value)[i]?) ∧ (∀ i, w'.cell? ⟨gn, i, none⟩ = (#[.string n.path, .int .i64 n.kind, .string n.data, .int .i64 n.mode] : Array Value)[i]?) ∧ w'.cell? ⟨p, 6, none⟩ = some (.int .i64 D.clock)) (first | assumption) ((go_at_call 43; refine (dmake_any p _ D n _ _ _ HMd.out HL.out).mono ?_; rintro e wA ⟨rfl, q, hMA, hoA, hq⟩; obtain ⟨wU, hrunU, hNU, hgU⟩ := hMA.parts.names.add HN.out path HS.out (D.inos.length + 1) (D.inos.length + 1) (by simp) (by have := HL.out; omega); obtain ⟨hSA, hSU⟩ := KEEP.out wA wU q hMA hoA hgU))
  go_wp2_with fail
  refine bodyPost_end (results_none rfl _ _ _) rfl ?_
  exact turn_end HM.out HMM.out hMA ((Off.refl _ W).drew.trans hoA (fun _ _ h => h)) hq hNU hgU
end Go.Proofs.YtgcfkljooabjjaaGreatDoor

/- A disk's lay: the walk. Conditions: what the contract states. -/
namespace Go.Proofs.YtgcfkljooabjjaaGreatDoor
open Go.RowKit Go.Op Go.Maps

def rsnCells (l : List (Bool × Int)) : List Value := l.flatMap fun x => [.bool x.1, .int .i64 x.2]
theorem rsnCells_len (l : List (Bool × Int)) : (rsnCells l).length = l.length * 2 := by
  unfold rsnCells
  induction l with
  | nil => rfl
  | cons x l ih => simp only [List.flatMap_cons, List.length_append, ih, List.length_cons, List.length_nil]; omega
theorem rsnCells_at : ∀ (l : List (Bool × Int)) (j : Nat) (x : Bool × Int), l[j]? = some x → (rsnCells l)[j * 2]? = some (.bool x.1) ∧ (rsnCells l)[j * 2 + 1]? = some (.int .i64 x.2)
  | [], j, x, h => by simp at h
  | y :: l, 0, x, h => by
    simp at h
    subst h
    exact ⟨rfl, rfl⟩
  | y :: l, j + 1, x, h => by
    have := rsnCells_at l j x (by simpa using h)
    have e : rsnCells (y :: l) = [.bool y.1, .int .i64 y.2] ++ rsnCells l := rfl
    rw [e, List.getElem?_append_right (by simp; omega), List.getElem?_append_right (by simp; omega)]
    simp only [List.length_cons, List.length_nil]
    rw [show (j + 1) * 2 - (0 + 1 + 1) = j * 2 by omega, show (j + 1) * 2 + 1 - (0 + 1 + 1) = j * 2 + 1 by omega]
    exact this
theorem rsnCells_snoc (l : List (Bool × Int)) (x : Bool × Int) : rsnCells (l ++ [x]) = rsnCells l ++ [.bool x.1, .int .i64 x.2] := by simp [rsnCells]
theorem rsnCells_one (l : List (Bool × Int)) : ∀ u ∈ rsnCells l, u.oneCell' = true := by
  intro u hu
  unfold rsnCells at hu
  obtain ⟨x, _, hx⟩ := List.mem_flatMap.1 hu
  simp at hx
  rcases hx with rfl | rfl <;> rfl
/-- a block that is just these reasons -/
def Rsns (w : World) (g : Nat) (l : List (Bool × Int)) : Prop := Blk w g 111 (rsnCells l).toArray
theorem Rsns.at_ {w : World} {g : Nat} {l : List (Bool × Int)} (h : Rsns w g l) : RsnsAt w g l :=
  ⟨Blk.lt h, fun j x hj => by
    obtain ⟨h1, h2⟩ := rsnCells_at l j x hj
    exact ⟨(Blk.cell h _).trans (by simpa using h1), (Blk.cell h _).trans (by simpa using h2)⟩⟩
theorem Rsns.cells {w : World} {g : Nat} {l : List (Bool × Int)} (h : Rsns w g l) : ∀ b, some (⟨g, 0, none⟩ : Addr) = some b → ∀ j u, (rsnCells l)[j]? = some u → w.cell? (b.add j) = some u := by
  intro b hb j u hj
  cases hb
  rw [addr_add, Blk.cell h]
  simpa using hj
theorem Rsns.off {w w' : World} {g : Nat} {l : List (Bool × Int)} (h : Rsns w g l) (ho : Off [] w w') : Rsns w' g l := Blk.off h ho (by simp)
theorem rsns_own {w : World} {base n : Nat} {v : Value} {l : List (Bool × Int)} (h : w.ownsRow base 111 2 v n (rsnCells l)) (hpos : 0 < n) : ∃ g cap, v = .slice (some ⟨g, 0, none⟩) n cap ∧ RsnsAt w g l := by
  obtain ⟨hl, h⟩ := h
  rcases h with ⟨_, h0⟩ | ⟨g, cap, cur, rfl, _, hh, _, _, _, ht⟩
  · omega
  · have hB : Blk w g 111 cur := hh
    refine ⟨g, cap, rfl, Blk.lt hB, fun j x hj => ?_⟩
    obtain ⟨h1, h2⟩ := rsnCells_at l j x hj
    have key : ∀ (i : Nat) (u : Value), (rsnCells l)[i]? = some u → cur[i]? = some u := fun i u hu => by
      rw [← ht, List.getElem?_take] at hu
      split at hu
      · simpa using hu
      · cases hu
    exact ⟨(hB.cell _).trans (key _ _ h1), (hB.cell _).trans (key _ _ h2)⟩
theorem infoRsn : (Tryz.prog.info? 111).map (fun i => (i.zero, i.size, i.bytes)) = some (some (.agg #[.bool false, .int .i64 0]), 2, 16) := by kernel_rfl
theorem cell_two_at {w : World} {g : Nat} {t : TypeId} {x y : Value} (h : Blk w g t #[x, y]) : ∀ j u, [x, y][j]? = some u → w.cell? ((⟨g, 0, none⟩ : Addr).add j) = some u := by
  intro j u hj
  rw [addr_add, h.cell]
  simpa using hj
theorem LAYEN : ∀ args w, (callFunc 95 args).run Tryz.prog w = .ok (.enter 95 args) w := enters_of Tryz.func95 (by kernel_rfl) rfl
theorem layc_turn (p m gd gn gp : Nat) (G : Geo) (D : PDisk) (path : ByteArray) (n : Node) (W : World) (hM : DiskM W p { G with nb := m } D) (hm : m ∉ G.rest) (hl : D.inos.length ≤ 1152921504606846976) (hn : D.names.length ≤ 1000000000) (hs : path.size ≤ maxLen)
    (hd : Blk W gd 25 #[.pointer (some ⟨p, 0, none⟩)]) (hnd : Blk W gn 30 #[.string n.path, .int .i64 n.kind, .string n.data, .int .i64 n.mode]) (hp : Blk W gp 9 #[.string path]) :
    Calls Tryz.prog 95 (#[.map (some m)] ++ #[.pointer (some ⟨gd, 0, none⟩), .pointer (some ⟨gn, 0, none⟩), .pointer (some ⟨gp, 0, none⟩)]) W
      (TurnP p m G { (D.make n D.clock (decide (n.kind = 1))) with names := putN D.names path (D.inos.length + 1) } W) := by
  have h := layc_any p m gd gn gp G D path n W hM hm hl hn hs hd hnd hp
  have e : (#[.map (some m)] ++ #[.pointer (some ⟨gd, 0, none⟩), .pointer (some ⟨gn, 0, none⟩), .pointer (some ⟨gp, 0, none⟩)] : Array Value) = #[.map (some m), .pointer (some ⟨gd, 0, none⟩), .pointer (some ⟨gn, 0, none⟩), .pointer (some ⟨gp, 0, none⟩)] := by simp
  rw [e]
  exact h
set_option maxRecDepth 100000 in
set_option maxHeartbeats 8000000 in
theorem dlay_any (p g k : Nat) (G : Geo) (D : PDisk) (path : ByteArray) (n : Node) (full : Bool) (l : List (Bool × Int)) (w : World) (hM : DiskM w p G D) (hsb : G.sb.isSome = true) (hR : Rsns w g l) (hk : l.length = k) (hkb : k ≤ 1000) (hi : D.inos.length ≤ 1152921504606846976) (hn : D.names.length ≤ 1000000000) (hl : D.later.length ≤ 1000000000) (hs : path.size ≤ maxLen) :
    Calls Tryz.prog 51 #[.pointer (some ⟨p, 0, none⟩), .string path, .agg #[.string n.path, .int .i64 n.kind, .string n.data, .int .i64 n.mode], .bool full, .slice (some ⟨g, 0, none⟩) k k] w fun e w' =>
      e = .returned (.int .i64 (D.lay path n full l).1) ∧ DiskTo w p G.parts w' (D.lay path n full l).2 := by
  obtain ⟨i0, hi0, hz0, hz1, hz2⟩ := info_parts infoRsn
  obtain ⟨b, hb⟩ : ∃ b, (full || decide (1000 ≤ D.names.length)) = b := ⟨_, rfl⟩
  have HM := Lib.hid hM
  have HR := Lib.hid hR
  have HK := Lib.hid hk
  have HB := Lib.hid hb
  have HI := Lib.hid hi
  have HN := Lib.hid hn
  have HL := Lib.hid hl
  have HS := Lib.hid hs
  have hrl : (rsnCells l).length = k * 2 := by rw [rsnCells_len, hk]
  have HRL := Lib.hid hrl
  have HRO := Lib.hid (rsnCells_one l)
  have HPL := Lib.hid hM.blk.lt
  obtain ⟨E, hE⟩ : ∃ E, firstE (l ++ [(b, 71)]) = E := ⟨_, rfl⟩
  have HE := Lib.hid hE
  have hW := Lib.hid (show DiskM (((w.alloc (.cells #[.pointer (some ⟨p, 0, none⟩)] 25)).alloc (.cells #[.string path] 9)).alloc (.cells #[.string n.path, .int .i64 n.kind, .string n.data, .int .i64 n.mode] 30)) p G D ∧ Rsns (((w.alloc (.cells #[.pointer (some ⟨p, 0, none⟩)] 25)).alloc (.cells #[.string path] 9)).alloc (.cells #[.string n.path, .int .i64 n.kind, .string n.data, .int .i64 n.mode] 30)) g l from
    ⟨((hM.alloc _).alloc _).alloc _, ((hR.off ((Off.refl _ _).alloc _)).off ((Off.refl _ _).alloc _)).off ((Off.refl _ _).alloc _)⟩)
  obtain ⟨L, hL⟩ : ∃ L, D.names.length = L := ⟨_, rfl⟩
  have HLN := Lib.hid hL
  have hN1 : L ≤ 1000000000 := by omega
  clear hM hR hk hi hn hl hs hrl hb hE hL
  go_enter Tryz.func51, Tryz.ntmps51
  go_upto_region 1 with fail
  refine code_gen (fun W => DiskM W p G D ∧ Rsns W g l ∧ Blk W w.heap.size 25 #[.pointer (some ⟨p, 0, none⟩)] ∧ Blk W (w.heap.size + 1) 9 #[.string path] ∧ Blk W (w.heap.size + 1 + 1) 30 #[.string n.path, .int .i64 n.kind, .string n.data, .int .i64 n.mode] ∧ Off [] w W)
    ⟨hW.out.1, hW.out.2, ((Blk.new w 25 _).alloc _).alloc _, (Blk.new1 w _ _ _).alloc _, Blk.new2 w _ _ _ _, (((Off.refl _ _).alloc _).alloc _).alloc _⟩ ?_
  rintro W ⟨hM, hR, hbd, hbp, hbn, hof⟩
  have HMW := Lib.hid hM
  have HRW := Lib.hid hR
  have HBP := Lib.hid hbp
  have HBD := Lib.hid hbd
  have HBN := Lib.hid hbn
  have HOF := Lib.hid hof
  have hcd := hbd.cell
  have hc := hM.blk.cell
  have hlen : ∀ ty, (Builtin.len_ #[95] ty #[.map (some G.nb)]).run Tryz.prog W = .ok (.int .i64 L) W := fun ty => by rw [← HLN.out]; exact hM.parts.names.len ty
  unfold diskCells at hc
  clear hM hR hbp hbn hof hW hbd
  go_cut [11] from 12 to 25 (fun s wx => s = .int .i64 E ∧ Off [] W wx)
  case first =>
    cases full
    · by_cases h : 1000 ≤ L
      · have hb : b = true := by rw [← HB.out, HLN.out, decide_eq_true h]; rfl
        have h' : (1000 : Int) ≤ L := by omega
        have hE : firstE (l ++ [(true, 71)]) = E := by rw [← hb]; exact HE.out
        have HE2 := Lib.hid hE
        clear hE hb HB HE
        go_wp2_with (at_builtin; refine wpList_append_grows _ rfl _ _ 115 rfl 111 i0 _ 2 16 Tryz.underlying115 hi0 hz0 hz1 hz2 rfl (by decide) (some ⟨g, 0, none⟩) k k (rsnCells l) rfl (by intro h; cases h) HRL.out (HRW.out.off ((Off.refl _ _).alloc _)).cells ⟨W.heap.size, 0, none⟩ 1 1 [.bool true, .int .i64 71] rfl rfl (cell_two_at (Blk.new W _ _)) (by simp [Value.oneCell']) (by omega) (by unfold maxLen; omega) (by omega) ?_; intro v' w5 hown hgrow; obtain ⟨g5, c5, rfl, hR5⟩ := rsns_own (l := l ++ [(true, 71)]) (by rw [rsnCells_snoc]; exact hown) (by omega))
        refine (dfirst_any g5 c5 (k + 1) (l ++ [(true, 71)]) w5 hR5 (by rw [List.length_append, HK.out]; rfl) (by omega)).mono ?_
        rintro e w6 ⟨rfl, ho6⟩
        rw [HE2.out]
        have hx := ((((Off.refl [] W).alloc _).grown hgrow (fun k hk => by cases hk))).trans_nil ho6
        clear hown hgrow ho6 hR5 hc hcd hlen
        go_wp2_with fail
        go_meet
        exact ⟨rfl, hx⟩
      · have hb : b = false := by rw [← HB.out, HLN.out, decide_eq_false h]; rfl
        have h' : ¬ (1000 : Int) ≤ L := by omega
        have hE : firstE (l ++ [(false, 71)]) = E := by rw [← hb]; exact HE.out
        have HE2 := Lib.hid hE
        clear hE hb HB HE
        go_wp2_with (at_builtin; refine wpList_append_grows _ rfl _ _ 115 rfl 111 i0 _ 2 16 Tryz.underlying115 hi0 hz0 hz1 hz2 rfl (by decide) (some ⟨g, 0, none⟩) k k (rsnCells l) rfl (by intro h; cases h) HRL.out (HRW.out.off ((Off.refl _ _).alloc _)).cells ⟨W.heap.size, 0, none⟩ 1 1 [.bool false, .int .i64 71] rfl rfl (cell_two_at (Blk.new W _ _)) (by simp [Value.oneCell']) (by omega) (by unfold maxLen; omega) (by omega) ?_; intro v' w5 hown hgrow; obtain ⟨g5, c5, rfl, hR5⟩ := rsns_own (l := l ++ [(false, 71)]) (by rw [rsnCells_snoc]; exact hown) (by omega))
        refine (dfirst_any g5 c5 (k + 1) (l ++ [(false, 71)]) w5 hR5 (by rw [List.length_append, HK.out]; rfl) (by omega)).mono ?_
        rintro e w6 ⟨rfl, ho6⟩
        rw [HE2.out]
        have hx := ((((Off.refl [] W).alloc _).grown hgrow (fun k hk => by cases hk))).trans_nil ho6
        clear hown hgrow ho6 hR5 hc hcd hlen
        go_wp2_with fail
        go_meet
        exact ⟨rfl, hx⟩
    · have hb : b = true := by rw [← HB.out]; rfl
      have hE : firstE (l ++ [(true, 71)]) = E := by rw [← hb]; exact HE.out
      have HE2 := Lib.hid hE
      clear hE hb HB HE
      go_wp2_with (at_builtin; refine wpList_append_grows _ rfl _ _ 115 rfl 111 i0 _ 2 16 Tryz.underlying115 hi0 hz0 hz1 hz2 rfl (by decide) (some ⟨g, 0, none⟩) k k (rsnCells l) rfl (by intro h; cases h) HRL.out (HRW.out.off ((Off.refl _ _).alloc _)).cells ⟨W.heap.size, 0, none⟩ 1 1 [.bool true, .int .i64 71] rfl rfl (cell_two_at (Blk.new W _ _)) (by simp [Value.oneCell']) (by omega) (by unfold maxLen; omega) (by omega) ?_; intro v' w5 hown hgrow; obtain ⟨g5, c5, rfl, hR5⟩ := rsns_own (l := l ++ [(true, 71)]) (by rw [rsnCells_snoc]; exact hown) (by omega))
      refine (dfirst_any g5 c5 (k + 1) (l ++ [(true, 71)]) w5 hR5 (by rw [List.length_append, HK.out]; rfl) (by omega)).mono ?_
      rintro e w6 ⟨rfl, ho6⟩
      rw [HE2.out]
      have hx := ((((Off.refl [] W).alloc _).grown hgrow (fun k hk => by cases hk))).trans_nil ho6
      clear hown hgrow ho6 hR5 hc hcd hlen
      go_wp2_with fail
      go_meet
      exact ⟨rfl, hx⟩
  case rest =>
    obtain ⟨rfl, hox⟩ := hcut
    have hbd := HBD.out.off hox (by simp)
    have hcd := hbd.cell
    have HLAY := Lib.hid (show D.lay path n full l = if E ≠ 0 then (E, D) else (0, (D.make n D.clock (decide (n.kind = 1))).change (putN D.names path (D.inos.length + 1))) by
      unfold PDisk.lay
      rw [HB.out, HE.out])
    have hM2 := HMW.out.off hox (by simp) (by simp)
    have HM2 := Lib.hid hM2
    have HOW := Lib.hid (HOF.out.trans_nil hox)
    have hlt := hbd.lt
    clear hc hlen hM2
    by_cases h0 : E = 0
    · subst h0
      have HL2 := Lib.hid (show D.lay path n full l = (0, (D.make n D.clock (decide (n.kind = 1))).change (putN D.names path (D.inos.length + 1))) by rw [HLAY.out]; simp)
      clear HLAY
      go_wp2_with fail
      have HTN := Lib.hid (fun (W1 : World) (hW1 : DiskM W1 p { G with nb := wc.heap.size } D) (ho1 : Off [p] wc W1) => layc_turn p wc.heap.size w.heap.size (w.heap.size + 1 + 1) (w.heap.size + 1) G D path n W1 hW1 (fun h => Nat.lt_irrefl _ (HM2.out.parts.lt (List.mem_cons_of_mem _ h))) HI.out HN.out HS.out ((HBD.out.off hox (by simp)).off ho1 (by have := HPL.out; simp; omega)) ((HBN.out.off hox (by simp)).off ho1 (by have := HPL.out; simp; omega)) ((HBP.out.off hox (by simp)).off ho1 (by have := HPL.out; simp; omega)))
      refine (dchange_any p G D { (D.make n D.clock (decide (n.kind = 1))) with names := putN D.names path (D.inos.length + 1) } 95 #[.pointer (some ⟨w.heap.size, 0, none⟩), .pointer (some ⟨w.heap.size + 1 + 1, 0, none⟩), .pointer (some ⟨w.heap.size + 1, 0, none⟩)] wc HM2.out hsb HL.out LAYEN HTN.out).mono ?_
      rintro e w7 ⟨rfl, hT⟩
      go_wp2_with fail
      go_ret
      rw [HL2.out]
      refine ⟨rfl, DiskTo.next (HOW.out.mono (fun x _ h => by simp at h)) (fun b hb => .inl hb) hT⟩
    · have HL2 := Lib.hid (show D.lay path n full l = (E, D) by rw [HLAY.out, if_pos h0])
      clear HLAY
      have hne : (E == 0) = false := beq_eq_false_iff_ne.2 h0
      go_wp2_with fail
      go_ret
      rw [HL2.out]
      exact ⟨rfl, DiskTo.next (HOW.out.mono (fun x _ h => by simp at h)) (fun b hb => .inl hb) (DiskTo.refl HM2.out hsb)⟩
end Go.Proofs.YtgcfkljooabjjaaGreatDoor

/- A disk's crash: the walk. Conditions: what the contract states. -/
namespace Go.Proofs.YtgcfkljooabjjaaGreatDoor
open Go.RowKit Go.Op Go.Maps

/-- the names that a crash leaves -/
def crashN (D : PDisk) (f : FateP) : NameL := (D.crash f).names
theorem crashN_safe {D : PDisk} {f : FateP} (h : ¬ 0 < min f.keep D.later.length) : crashN D f = D.safe := by
  unfold crashN PDisk.crash
  dsimp only
  split
  · rw [if_neg h]
  · rfl
theorem crashN_later {D : PDisk} {f : FateP} (h : 0 < min f.keep (D.later.length : Int)) {l : NameL} (hl : D.later[(min f.keep (D.later.length : Int)).toNat - 1]? = some l) : crashN D f = l := by
  unfold crashN PDisk.crash
  dsimp only
  rw [hl]
  simp only
  rw [if_pos h]
def optPtr : Option Nat → Value | none => .pointer none | some b => .pointer (some ⟨b, 0, none⟩)
theorem ptrElem_shape {v : Value} {y : DataW Unit × List MemPlace} (h : ptrElem v = some y) : ∃ c, v = optPtr c := by
  unfold ptrElem at h
  split at h
  · exact ⟨none, rfl⟩
  · rename_i b
    exact ⟨some b, rfl⟩
  · cases h
theorem int_shape {key : Value} {kl : Lit} (h : keyOf Tryz.prog 3 key = some kl) : ∃ x, key = Value.int .i64 x := by
  obtain ⟨x, rfl, _⟩ := keyOf_int_inv Tryz.underlying3 h
  exact ⟨x, rfl⟩
/-- which inode has come -/
theorem who_came {Dm : DataW Unit} {qs : List Nat} {x : Int} {c : Option Nat} {kl : Lit} {y : DataW Unit × List MemPlace}
    (h1 : ∀ (k q : Nat), qs[k]? = some q → has Dm (numL (k + 1)) = true ∧ Dm.atKey (numL (k + 1)) .nil = .lit (.int .i64 q)) (h2 : ∀ i : Int, (i < 1 ∨ (qs.length : Int) < i) → has Dm (numL i) = false)
    (hk : keyOf Tryz.prog 3 (.int .i64 x) = some kl) (hc : ptrElem (optPtr c) = some y) (hat : ∀ zd, Dm.atKey kl zd = y.1) :
    ∃ (i q : Nat), kl = numL (i + 1) ∧ qs[i]? = some q ∧ c = some q := by
  obtain ⟨x', hx', hkl, _⟩ := keyOf_int_inv Tryz.underlying3 hk
  cases hx'
  have hh := has_true_of_atKey hat
  have hx : ¬ (x < 1 ∨ (qs.length : Int) < x) := fun h => by
    have := h2 x h
    rw [hkl] at hh
    rw [show Lit.int .i64 x = numL x from rfl, this] at hh
    cases hh
  have hlt : (x - 1).toNat < qs.length := by omega
  have hq := List.getElem?_eq_getElem hlt
  have h3 := (h1 _ _ hq).2
  rw [show (((x - 1).toNat : Nat) : Int) + 1 = x by omega] at h3
  have h4 := hat .nil
  rw [hkl, show Lit.int .i64 x = numL x from rfl, h3] at h4
  refine ⟨(x - 1).toNat, qs[(x - 1).toNat], by rw [hkl, show (((x - 1).toNat : Nat) : Int) + 1 = x by omega]; rfl, hq, ?_⟩
  cases c with
  | none =>
    rw [show ptrElem (optPtr none) = some (.nil, []) from rfl] at hc
    cases hc
    cases h4
  | some b =>
    rw [show ptrElem (optPtr (some b)) = some (.lit (.int .i64 b), []) from rfl] at hc
    cases hc
    simp only [DataW.lit.injEq, Lit.int.injEq, true_and] at h4
    have := Int.ofNat_inj.1 h4
    rw [this]
def crashCells (x ib : Nat) (n : Nat) (clock : Nat) (tv fv : Value) : Array Value :=
  #[.map (some x), .map (some x), .slice none 0 0, .map (some ib), .int .i64 (n + 1), .bool true, .int .i64 clock, tv, fv, .slice none 0 0]
theorem crash_end {w W2 w3 wr : World} {p sb x : Nat} {G : Geo} {D : PDisk} {f : FateP} (hM : DiskM w p G D) (hse : G.sb = some sb) (hx : (x = sb ∧ crashN D f = D.safe) ∨ ∃ i : Nat, G.lb[i]? = some x ∧ D.later[i]? = some (crashN D f))
    (hB : Blk W2 p 99 (crashCells x G.ib D.inos.length D.clock G.tv G.fv)) (h2 : Off [p] w W2) (hg : W2.grownBy w3 none) (h3 : Off (W2.heap.size :: G.qs) w3 wr)
    (hi : ∀ (i q : Nat) (m : Ino), G.qs[i]? = some q → D.inos[i]? = some m → Blk wr q 114 (inoCells (PDisk.tear f.torn m))) : DiskTo w p G.parts wr (D.crash f) := by
  have hP := hM.parts
  have r1 : ∀ b ∈ G.rest, b ∈ G.parts := fun b hb => List.mem_cons_of_mem _ hb
  have hfar := hM.far
  have ho : Off (p :: G.qs) w wr := by
    have h23 : Off [p] w w3 := h2.grown hg (fun k hk => by cases hk)
    refine (h23.mono (fun y _ h => by simp at h; subst h; exact List.mem_cons_self ..)).trans h3 (fun y hy h => ?_)
    rcases List.mem_cons.1 h with rfl | h
    · have := h2.size; omega
    · exact List.mem_cons_of_mem _ h
  have hqs : ∀ q ∈ G.qs, ∃ cs, Blk w q 114 cs := fun q hq => by
    obtain ⟨i, hi', rfl⟩ := List.getElem_of_mem hq
    have hl : i < D.inos.length := by rw [← hP.qsl]; exact hi'
    exact ⟨_, hP.inos i _ _ (List.getElem?_eq_getElem hi') (List.getElem?_eq_getElem hl)⟩
  have mp : ∀ b, IsMapB w b → b ∉ p :: G.qs := fun b hb h => by
    rcases List.mem_cons.1 h with rfl | h
    · exact hb.ne hM.blk rfl
    · obtain ⟨cs, hB'⟩ := hqs b h
      exact hb.ne hB' rfl
  have ty : ∀ b t cs, Blk w b t cs → t ≠ 99 ∧ t ≠ 114 → b ∉ p :: G.qs := fun b t cs hb ht h => by
    rcases List.mem_cons.1 h with rfl | h
    · exact hb.ne_ hM.blk ht.1 rfl
    · obtain ⟨cs', hB'⟩ := hqs b h
      exact hb.ne_ hB' ht.2 rfl
  have hN : NMat w x (crashN D f) := by
    rcases hx with ⟨rfl, h⟩ | ⟨i, h1, h2⟩
    · rw [h]
      have := hP.safe
      rw [hse] at this
      exact this
    · exact hP.laters i x _ h1 h2
  have hNr : NMat wr x (crashN D f) := hN.off ho (mp x hN.isMap)
  have hxp : x ∈ G.parts := by
    rcases hx with ⟨rfl, _⟩ | ⟨i, h1, _⟩
    · exact r1 _ (mem_rest.2 (.inl (by rw [hse]; simp)))
    · exact r1 _ (mem_rest.2 (.inr (.inr (.inl (List.mem_of_getElem? h1)))))
  have hxi : G.ib ≠ x := by
    rcases hx with ⟨rfl, _⟩ | ⟨i, h1, _⟩
    · intro e; exact hP.apart.2.1 (by rw [hse, e])
    · intro e; exact hP.apart.2.2 (by rw [e]; exact List.mem_of_getElem? h1)
  have hBr : Blk wr p 99 (crashCells x G.ib D.inos.length D.clock G.tv G.fv) := by
    refine (hB.grown hg (by simp)).off h3 (fun h => ?_)
    rcases List.mem_cons.1 h with h | h
    · have := hB.lt; omega
    · exact hfar (r1 _ (mem_rest.2 (.inr (.inr (.inr (.inl h))))))
  refine ⟨{ G with nb := x, sb := some x, lv := .slice none 0 0, lb := [] }, ⟨?_, ?_⟩, ?_, fun b hb => ?_, rfl⟩
  · show Blk wr p 99 #[.map (some x), .map (some x), .slice none 0 0, .map (some G.ib), .int .i64 ((D.inos.map (PDisk.tear f.torn)).length + 1), .bool true, .int .i64 D.clock, G.tv, G.fv, .slice none 0 0]
    rw [List.length_map]
    exact hBr
  · exact {
      names := hNr
      safe := hNr
      later := World.ownsRow_nil wr 0 _ 1
      lbl := rfl
      laters := fun i b l h1 _ => by simp at h1
      ino := hP.ino.off ho (mp _ hP.ino.isMap)
      qsl := by
        show G.qs.length = (D.inos.map (PDisk.tear f.torn)).length
        rw [List.length_map]; exact hP.qsl
      inos := fun i q n h1 h2 => by
        have h2 : (D.inos.map (PDisk.tear f.torn))[i]? = some n := h2
        rw [List.getElem?_map] at h2
        obtain ⟨m, hm, rfl⟩ := Option.map_eq_some_iff.1 h2
        exact hi i q m h1 hm
      nodup := hP.nodup
      trace := own_offk hP.trace ho (fun b hb => by
        obtain ⟨cs, hB'⟩ := own_lt hP.trace b hb
        exact ty b _ _ hB' (by decide))
      fates := hP.fates.off ho (fun b hb => by
        obtain ⟨cs, hB'⟩ := hP.fbl b hb
        exact ty b _ _ hB' (by decide))
      fbl := fun g hg => by
        obtain ⟨cs, hB'⟩ := hP.fbl g hg
        exact ⟨cs, hB'.off ho (ty g _ _ hB' (by decide))⟩
      apart := ⟨hxi, fun e => hxi (by injection e with e; exact e.symm), by simp⟩ }
  · refine ho.mono (fun y _ h => ?_)
    rcases List.mem_cons.1 h with rfl | h
    · exact List.mem_cons_self ..
    · exact List.mem_cons_of_mem _ (r1 _ (mem_rest.2 (.inr (.inr (.inr (.inl h))))))
  · left
    rcases List.mem_cons.1 hb with rfl | hb
    · exact hxp
    · rcases mem_rest.1 hb with h | h | h | h | h | h | h
      · simp at h; subst h; exact hxp
      · exact r1 _ (mem_rest.2 (.inr (.inl h)))
      · simp at h
      · exact r1 _ (mem_rest.2 (.inr (.inr (.inr (.inl h)))))
      · simp [Value.ownBlock] at h
      · exact r1 _ (mem_rest.2 (.inr (.inr (.inr (.inr (.inr (.inl h)))))))
      · exact r1 _ (mem_rest.2 (.inr (.inr (.inr (.inr (.inr (.inr h)))))))
theorem crash_step {w3 wr w4 w5 : World} {ib r n q i cnt cnt1 : Nat} {qs : List Nat} {inos : List Ino} {m : Ino} {torn : Int} {Dm : DataW Unit} {left : Lit → Bool}
    (hrel : wr.ranges Tryz.prog 3 ptrElem ib r n Dm left cnt) (hI : ∀ (i q : Nat) (m : Ino), qs[i]? = some q → inos[i]? = some m → Blk wr q 114 (inoCells (if left (numL (i + 1)) = true then m else PDisk.tear torn m)))
    (hg1 : wr.grownBy w4 (some r)) (hg5 : w4.grownBy w5 (some q)) (hq : qs[i]? = some q) (hm : inos[i]? = some m) (hB5 : Blk w5 q 114 (inoCells (PDisk.tear torn m)))
    (hrg1 : w4.ranges Tryz.prog 3 ptrElem ib r n Dm (fun z => left z && !z.sameKey (numL (i + 1))) cnt1) (hlt : cnt1 < cnt) (ho : Off (r :: qs) w3 wr) (hrq : ∀ q ∈ qs, q ≠ r) (hnd : qs.Nodup) :
    (∃ left cnt, w5.ranges Tryz.prog 3 ptrElem ib r n Dm left cnt ∧ Off (r :: qs) w3 w5 ∧ Hid (∀ (i q : Nat) (m : Ino), qs[i]? = some q → inos[i]? = some m → Blk w5 q 114 (inoCells (if left (numL (i + 1)) = true then m else PDisk.tear torn m)))) ∧
      w5.rangeLeft ib r < wr.rangeLeft ib r := by
  have hqm := List.mem_of_getElem? hq
  have hB4 : ∃ cs, Blk w4 q 114 cs := ⟨_, (hI i q m hq hm).grown hg1 (by simpa using hrq q hqm)⟩
  obtain ⟨cs, hB4⟩ := hB4
  have hib : IsMapB w4 ib := by
    obtain ⟨es, c, _, _, _, h, _⟩ := hrg1
    exact ⟨es, c, h⟩
  have hrg5 := hrg1.kept hg5 (fun e => hib.ne hB4 (by injection e)) (fun e => hrq q hqm (by injection e with e; exact e.symm))
  refine ⟨⟨_, _, hrg5, ?_, Lib.hid (fun j q' m' h1 h2 => ?_)⟩, by rw [hrg5.left_eq, hrel.left_eq]; exact hlt⟩
  · have h4 : Off (r :: qs) w3 w4 := ho.grown hg1 (fun k hk => by cases hk; exact .inr (List.mem_cons_self ..))
    exact h4.grown hg5 (fun k hk => by cases hk; exact .inr (List.mem_cons_of_mem _ hqm))
  · by_cases hj : j = i
    · subst hj
      rw [hq] at h1
      rw [hm] at h2
      cases h1; cases h2
      rw [WideAt.sameKey_self (isKey_num _)]
      simpa using hB5
    · have hne : q' ≠ q := fun e => by
        subst e
        have h3 := (List.getElem?_eq_some_iff.1 h1)
        have h4 := (List.getElem?_eq_some_iff.1 hq)
        have h5 := List.pairwise_iff_getElem.1 hnd
        rcases Nat.lt_or_ge j i with h | h
        · exact h5 j i h3.1 h4.1 h (by rw [h3.2, h4.2])
        · exact h5 i j h4.1 h3.1 (by omega) (by rw [h3.2, h4.2])
      rw [sameKey_ne (fun e => hj (by have := numL_inj e; omega))]
      have := hI j q' m' h1 h2
      have h4 := (this.grown hg1 (by simpa using hrq q' (List.mem_of_getElem? h1))).grown hg5 (by simpa using hne)
      simpa using h4
theorem grownBy_set (w : World) (q o : Nat) (u : Value) : w.grownBy (w.setCell ⟨q, o, none⟩ u) (some q) :=
  ⟨rfl, rfl, rfl, by simp [World.setCell], fun i _ hi => Below.heap_setCell w ⟨q, o, none⟩ u i (fun e => hi (by rw [e]))⟩
theorem grownBy_tr {a b c : World} {q : Nat} (h : a.grownBy b (some q)) (k : b.grownBy c (some q)) : a.grownBy c (some q) :=
  ⟨k.os.trans h.os, k.tape.trans h.tape, k.output.trans h.output, Nat.le_trans h.size k.size, fun i hi hne => (k.block i (Nat.lt_of_lt_of_le hi h.size) hne).trans (h.block i hi hne)⟩
set_option maxRecDepth 100000 in
set_option maxHeartbeats 8000000 in
theorem dcrash_any (p : Nat) (G : Geo) (D : PDisk) (f : FateP) (w : World) (hM : DiskM w p G D) (hsb : G.sb.isSome = true) (hl : D.later.length ≤ 1000000000) (hi : D.inos.length ≤ 1152921504606846976) :
    Calls Tryz.prog 94 #[.pointer (some ⟨p, 0, none⟩), .agg #[.int .i64 f.at_, .int .i64 f.what, .int .i64 f.keep, .int .i64 f.torn]] w fun e w' => e = .returned (.tuple #[]) ∧ DiskTo w p G.parts w' (D.crash f) := by
  have HM := Lib.hid hM
  have HSB := Lib.hid hsb
  have HI := Lib.hid hi
  obtain ⟨sb, hsbe⟩ := Option.isSome_iff_exists.1 hsb
  have HSE := Lib.hid hsbe
  obtain ⟨L, hL⟩ : ∃ L, D.later.length = L := ⟨_, rfl⟩
  have HL := Lib.hid hL
  obtain ⟨pl, cl, hlv⟩ : ∃ pl cl, G.lv = .slice pl L cl := by
    rcases hM.parts.later.2 with ⟨h1, h2⟩ | ⟨g, cap, cur, h1, _⟩
    · exact ⟨none, 0, by rw [h1, ← hL, h2]⟩
    · exact ⟨_, _, by rw [h1, hL]⟩
  have HLV := Lib.hid hlv
  rw [hL] at hl
  have hc := hM.blk.cell
  have hf := hM.blk.frozen
  have hlt := hM.blk.lt
  unfold diskCells at hc
  rw [hlv, hsbe] at hc
  clear hM hsb hi hsbe hL hlv
  go_enter Tryz.func94, Tryz.ntmps94
  go_upto_region 2 with fail
  refine code_gen (fun W => Blk W p 99 ((diskCells G D).setIfInBounds 0 (.map (some sb))) ∧ Blk W w.heap.size 23 #[.int .i64 f.at_, .int .i64 f.what, .int .i64 f.keep, .int .i64 f.torn] ∧ Off [p] w W)
    ⟨(HM.out.blk.set_ 0 _).alloc _, by have := Blk.new (w.setCell ⟨p, 0, none⟩ (.map (some sb))) 23 #[.int .i64 f.at_, .int .i64 f.what, .int .i64 f.keep, .int .i64 f.torn]; simpa [World.setCell] using this, ((Off.refl [p] w).setCell (.inr (by simp)) _).alloc _⟩ ?_
  rintro W ⟨hBp, hBf, hof⟩
  have HBP := Lib.hid hBp
  have HBF := Lib.hid hBf
  have HOF := Lib.hid hof
  clear hc hf hlt
  have hc := hBp.cell
  have hf := hBp.frozen
  have hlt := hBp.lt
  have hcf := hBf.cell
  have hlf := hBf.lt
  unfold diskCells at hc
  simp only [List.setIfInBounds_toArray, List.set_cons_zero] at hc
  rw [HLV.out, HSE.out] at hc
  clear hBp hBf hof
  go_region
  obtain ⟨mk, hmk⟩ : ∃ mk, min f.keep (L : Int) = mk := ⟨_, rfl⟩
  rw [hmk]
  have HMK := Lib.hid hmk
  clear hmk
  go_upto_if 23 with fail
  obtain ⟨bk, hbk⟩ : ∃ bk, decide (0 < mk) = bk := ⟨_, rfl⟩
  rw [hbk]
  have HBK := Lib.hid hbk
  clear hbk
  go_cut [] from 24 to 34 (fun wx => ∃ x, ((x = sb ∧ crashN D f = D.safe) ∨ ∃ i : Nat, G.lb[i]? = some x ∧ D.later[i]? = some (crashN D f)) ∧ Blk wx p 99 ((diskCells G D).setIfInBounds 0 (.map (some x))) ∧ Off [p] W wx)
  case first =>
    cases bk
    case true =>
      have hk : 0 < min f.keep (L : Int) := by rw [HMK.out]; exact of_decide_eq_true HBK.out
      obtain ⟨j, hj⟩ : ∃ j : Nat, min f.keep (L : Int) = (j : Int) + 1 := ⟨(min f.keep (L : Int)).toNat - 1, by omega⟩
      have hjL : j < L := by omega
      have hjb : j < G.lb.length := by rw [HM.out.parts.lbl, HL.out]; exact hjL
      have hjd : j < D.later.length := by rw [HL.out]; exact hjL
      have HX := Lib.hid (List.getElem?_eq_getElem hjb)
      have HY := Lib.hid (List.getElem?_eq_getElem hjd)
      have HN := Lib.hid (crashN_later (f := f) (by rw [HL.out]; exact hk) (show D.later[(min f.keep (D.later.length : Int)).toNat - 1]? = some D.later[j] by rw [HL.out, hj]; rw [show ((j : Int) + 1).toNat - 1 = j by omega]; exact HY.out))
      generalize G.lb[j] = x at HX
      generalize D.later[j] = y at HY HN
      obtain ⟨gl, hgl, hcell, hpg⟩ : ∃ gl, pl = some ⟨gl, 0, none⟩ ∧ W.cell? ⟨gl, j, none⟩ = some (.map (some x)) ∧ gl ≠ p := by
        rcases HM.out.parts.later.2 with ⟨h1, h2⟩ | ⟨g, cap, cur, h1, _, hh, _, _, _, ht⟩
        · rw [HL.out] at h2; omega
        · have hgp : g ≠ p := fun e => HM.out.far (by rw [← e]; exact List.mem_cons_of_mem _ (mem_rest.2 (.inr (.inr (.inr (.inr (.inl (by rw [h1]; simp [Value.ownBlock]))))))))
          have hB : Blk w g 95 cur := hh
          have hB2 := hB.off HOF.out (by simpa using hgp)
          rw [HLV.out] at h1
          injection h1 with h1 h2 h3
          refine ⟨g, h1, (hB2.cell j).trans ?_, hgp⟩
          have hxj : (G.lb.map fun b => Value.map (some b))[j]? = some (.map (some x)) := by rw [List.getElem?_map, HX.out]; rfl
          rw [← ht, List.getElem?_take] at hxj
          split at hxj
          · simpa using hxj
          · cases hxj
      subst hgl
      have hmj : mk = (j : Int) + 1 := by rw [← HMK.out, hj]
      have hwr : IntKind.i64.wrap (mk - 1) = mk - 1 := IntWalk.i64_in _ (by omega)
      have hm0 : 0 ≤ mk - 1 := by omega
      have hjl : mk - 1 < L := by omega
      have hsub : (mk - 1).toNat = j := by omega
      have HP := Lib.hid hpg
      clear hk hj hjb hjd hpg hmj
      go_wp2_with fail
      go_meet
      refine ⟨x, .inr ⟨j, HX.out, by rw [HN.out]; exact HY.out⟩, ?_, ((Off.refl [p] W).setCell (.inr (by simp)) _).drew⟩
      have := (HBP.out.set_ 0 (.map (some x))).drew
      simpa using this
    case false =>
      have hk : ¬ 0 < min f.keep (L : Int) := by rw [HMK.out]; exact of_decide_eq_false HBK.out
      have HN := Lib.hid (crashN_safe (D := D) (f := f) (by rw [HL.out]; exact hk))
      clear hk
      go_wp2_with fail
      go_meet
      exact ⟨sb, .inl ⟨rfl, HN.out⟩, HBP.out.drew, (Off.refl [p] W).drew⟩
  case rest =>
    obtain ⟨x, hx, hB, ho⟩ := hcut
    have HX := Lib.hid hx
    have HB := Lib.hid hB
    have HO := Lib.hid ho
    clear hc hf hlt hcf hlf hx
    have hc := hB.cell
    have hf := hB.frozen
    have hlt := hB.lt
    unfold diskCells at hc
    simp only [List.setIfInBounds_toArray, List.set_cons_zero] at hc
    clear hB ho
    go_upto_region 6 with fail
    refine code_gen (fun W2 => Blk W2 p 99 (crashCells x G.ib D.inos.length D.clock G.tv G.fv) ∧ Off [p] W W2) ⟨?_, ?_⟩ ?_
    · have := ((HB.out.set_ 1 (.map (some x))).set_ 2 (.slice none 0 0)).set_ 5 (.bool true)
      simpa [diskCells, crashCells] using this
    · exact ((HO.out.setCell (.inr (by simp)) _).setCell (.inr (by simp)) _).setCell (.inr (by simp)) _
    rintro W2 ⟨hB2, ho2⟩
    have HB2 := Lib.hid hB2
    have HO2 := Lib.hid (HOF.out.trans ho2 (fun _ _ h => h))
    have hpf : p ≠ w.heap.size := by have := HM.out.blk.lt; omega
    have HBF2 := Lib.hid (HBF.out.off ho2 (by simpa using Ne.symm hpf))
    clear hc hf hlt ho2 hpf
    have HP2 := Lib.hid (HM.out.parts.off HO2.out (fun b hb h => by simp at h; subst h; exact HM.out.far hb))
    obtain ⟨Dm, hDm, hsz, hh1, hh2⟩ := HP2.out.ino
    have HH1 := Lib.hid hh1
    have HH2 := Lib.hid hh2
    have hc := hB2.cell
    have hlt := hB2.lt
    unfold crashCells at hc
    clear hh1 hh2 hsz hB2
    go_wp2_with (at_range; refine wpList_range_own _ rfl _ 96 rfl 3 108 intK Tryz.underlying96 ptrElem G.ib G.qs.length Dm rfl hDm ?_; intro w3 hrg hg3 hs3)
    have hst : Hid (∀ (i q : Nat) (m : Ino), G.qs[i]? = some q → D.inos[i]? = some m → Blk w3 q 114 (inoCells (if has Dm (numL (i + 1)) = true then m else PDisk.tear f.torn m))) := Lib.hid (fun i q m h1 h2 => by
      rw [if_pos (HH1.out i q h1).1]
      exact (HP2.out.inos i q m h1 h2).grown hg3 (by simp))
    have HG3 := Lib.hid hg3
    have HS3 := Lib.hid hs3
    have hcf := (HBF2.out.grown hg3 (by simp)).cell
    have hlf := (HBF2.out.grown hg3 (by simp)).lt
    clear hg3 hs3 hc hlt hDm
    go_frame
    go_loopw [53] (fun _ wr => ∃ left cnt, wr.ranges Tryz.prog 3 ptrElem G.ib W2.heap.size G.qs.length Dm left cnt ∧ Off (W2.heap.size :: G.qs) w3 wr ∧ Hid (∀ (i q : Nat) (m : Ino), G.qs[i]? = some q → D.inos[i]? = some m → Blk wr q 114 (inoCells (if left (numL (i + 1)) = true then m else PDisk.tear f.torn m)))) (fun _ wr => wr.rangeLeft G.ib W2.heap.size)
    case atStart => exact ⟨_, _, hrg, Off.refl _ _, hst⟩
    case round =>
      clear hst
      obtain ⟨left, cnt, hrel, ho, HI2⟩ := hrel
      have HO3 := Lib.hid ho
      clear hrg ho
      go_wp2_with (at_next; refine wpList_next_ranges _ rfl _ rfl 3 intK ptrElem (Value.int .i64) optPtr (fun _ _ h => int_shape h) (fun _ _ h => ptrElem_shape h) G.ib W2.heap.size G.qs.length Dm _ _ rfl hrel ?_ ?_)
      · intro hc0 hl0
        have HEND := Lib.hid (crash_end (f := f) HM.out HSE.out HX.out HB2.out HO2.out HG3.out HO3.out (fun i q m h1 h2 => by
          have := HI2.out i q m h1 h2
          rw [hl0, if_neg (by decide)] at this
          exact this))
        clear hl0 hc0 hrel hcf hlf
        go_wp2_with fail
        refine bodyPost_end (results_none rfl _ _ _) rfl ?_
        exact ⟨rfl, HEND.out⟩
      · intro x' c kl yd yp w4 cnt1 hkey hlk hy hat hrg1 hlt1 hg1 hs1 hen
        obtain ⟨i, q, rfl, hq, rfl⟩ := who_came HH1.out HH2.out hkey hy hat
        have hqb : i < G.qs.length := (List.getElem?_eq_some_iff.1 hq).1
        have hdb : i < D.inos.length := by rw [← HM.out.parts.qsl]; exact hqb
        have hm := List.getElem?_eq_getElem hdb
        generalize D.inos[i] = m at hm
        have HQ := Lib.hid hq
        have HMI := Lib.hid hm
        have HY := Lib.hid hlk
        have HRG := Lib.hid hrg1
        have HG1 := Lib.hid hg1
        have HREL := Lib.hid hrel
        have HLT1 := Lib.hid hlt1
        have hqw : q < w.heap.size := HM.out.parts.lt (List.mem_cons_of_mem _ (mem_rest.2 (.inr (.inr (.inr (.inl (List.mem_of_getElem? hq)))))))
        have hww : w.heap.size ≤ W2.heap.size := HO2.out.size
        have HNE := Lib.hid (show q ≠ W2.heap.size by omega)
        have hbq : Blk w4 q 114 (inoCells m) := by
          have := HI2.out i q m hq hm
          rw [if_pos hlk] at this
          exact this.grown hg1 (by have := HNE.out; simpa using this)
        have hbf : Blk w4 w.heap.size 23 #[.int .i64 f.at_, .int .i64 f.what, .int .i64 f.keep, .int .i64 f.torn] := by
          refine ((HBF2.out.grown HG3.out (by simp)).off HO3.out (fun h => ?_)).grown hg1 (fun e => ?_)
          · rcases List.mem_cons.1 h with h | h
            · have := HBF2.out.lt; omega
            · obtain ⟨j, hj, e⟩ := List.getElem_of_mem h
              have := HM.out.parts.lt (List.mem_cons_of_mem _ (mem_rest.2 (.inr (.inr (.inr (.inl h))))))
              omega
          · injection e with e
            have := HBF2.out.lt; omega
        have HBQ := Lib.hid hbq
        have hcq := hbq.cell
        have hfq := hbq.frozen
        have hlq := hbq.lt
        have hcf := hbf.cell
        have hlf := hbf.lt
        unfold inoCells at hcq
        change (Instr.entry (.pointer (some ⟨W2.heap.size, 0, none⟩))).run Tryz.prog w4 = .ok (.tuple #[.int .i64 x', .pointer (some ⟨q, 0, none⟩)]) w4 at hen
        clear hq hm hy hrg1 hg1 hs1 hrel hlt1 hkey hlk hat hbq hbf hqb hdb hqw hww
        have hcf : w4.cell? ⟨w.heap.size, 3, none⟩ = some (.int .i64 f.torn) := hcf 3
        simp only [optPtr]
        have HRQ := Lib.hid (show ∀ q ∈ G.qs, q ≠ W2.heap.size from fun q hq => by
          have := HM.out.parts.lt (List.mem_cons_of_mem _ (mem_rest.2 (.inr (.inr (.inr (.inl hq))))))
          have := HO2.out.size
          omega)
        cases hd : m.dirty
        · rw [hd] at hcq
          have HD := Lib.hid hd
          clear hd
          go_wp2_with fail
          exact crash_step HREL.out HI2.out HG1.out (⟨rfl, rfl, rfl, Nat.le_refl _, fun _ _ _ => rfl⟩ : w4.grownBy w4 (some q)) HQ.out HMI.out (by
            have : PDisk.tear f.torn m = m := by unfold PDisk.tear; rw [HD.out]; rfl
            rw [this]; exact HBQ.out) HRG.out HLT1.out HO3.out HRQ.out HM.out.parts.nodup
        · rw [hd] at hcq
          have HD := Lib.hid hd
          have hK0 : 0 ≤ min (max f.torn 0) (m.node.data.size : Int) := by omega
          have hK1 : min (max f.torn 0) (m.node.data.size : Int) ≤ m.node.data.size := by omega
          clear hd
          go_wp2_with fail
          go_region
          go_upto_region 11 with fail
          refine code_gen (fun W5 => Blk W5 q 114 ((inoCells m).setIfInBounds 2 (.string (m.node.data.extract 0 (min (max f.torn 0) (m.node.data.size : Int)).toNat))) ∧ w4.grownBy W5 (some q)) ⟨(HBQ.out.set_ 2 _).drew, (fun h => ⟨h.os, h.tape, h.output, h.size, h.block⟩) (grownBy_set w4 q 2 (.string (m.node.data.extract 0 (min (max f.torn 0) (m.node.data.size : Int)).toNat)))⟩ ?_
          rintro W5 ⟨hB5, hg5⟩
          have HB5 := Lib.hid hB5
          have HG5 := Lib.hid hg5
          clear hcq hfq hlq hcf hlf hg5
          have hcq := hB5.cell
          have hfq := hB5.frozen
          have hlq := hB5.lt
          unfold inoCells at hcq
          rw [HD.out] at hcq
          simp only [List.setIfInBounds_toArray, List.set_cons_zero, List.set_cons_succ] at hcq
          clear hB5
          go_wp2_with fail
          exact crash_step HREL.out HI2.out HG1.out (grownBy_tr HG5.out (grownBy_set _ q 5 _)) HQ.out HMI.out (by
            have := HB5.out.set_ 5 (.bool false)
            unfold PDisk.tear
            rw [HD.out]
            have e : (min (max f.torn 0) (m.node.data.size : Int)).toNat = min f.torn.toNat m.node.data.size := by omega
            rw [e] at this
            simpa [inoCells] using this) HRG.out HLT1.out HO3.out HRQ.out HM.out.parts.nodup
end Go.Proofs.YtgcfkljooabjjaaGreatDoor

/- slices.IndexFunc at fates, with a step's closure: the walks. Conditions: what each contract states. -/
namespace Go.Proofs.YtgcfkljooabjjaaGreatDoor
open Go.RowKit Go.Op Go.Maps

/-- the first fate of a step; -1: none -/
def idxAt : List FateP → Int → Int
  | [], _ => -1
  | f :: fs, a => if f.at_ = a then 0 else match idxAt fs a with | .ofNat i => i + 1 | _ => -1
theorem idxAt_spec : ∀ (fs : List FateP) (a : Int), (idxAt fs a = -1 ∧ fs.find? (fun f => decide (f.at_ = a)) = none) ∨ ∃ (i : Nat) (f : FateP), idxAt fs a = i ∧ fs[i]? = some f ∧ fs.find? (fun f => decide (f.at_ = a)) = some f
  | [], a => .inl ⟨rfl, rfl⟩
  | f :: fs, a => by
    by_cases h : f.at_ = a
    · exact .inr ⟨0, f, by simp [idxAt, h], rfl, by simp [h]⟩
    · rcases idxAt_spec fs a with ⟨h1, h2⟩ | ⟨i, g, h1, h2, h3⟩
      · exact .inl ⟨by simp [idxAt, h, h1], by simp [h, h2]⟩
      · refine .inr ⟨i + 1, g, ?_, by simpa using h2, by simp [h, h3]⟩
        unfold idxAt
        rw [if_neg h, h1]
        rfl
theorem idxAt_drop (fs : List FateP) (a : Int) : ∀ i : Nat, i < fs.length → (∀ (j : Nat) (f : FateP), j < i → fs[j]? = some f → f.at_ ≠ a) → (∃ f : FateP, fs[i]? = some f ∧ f.at_ = a) → idxAt fs a = i := by
  induction fs with
  | nil => intro i hi; simp at hi
  | cons f fs ih =>
    intro i hi hlow ⟨g, hg, hga⟩
    cases i with
    | zero =>
      simp at hg
      subst hg
      simp [idxAt, hga]
    | succ i =>
      have h0 : f.at_ ≠ a := hlow 0 f (by omega) rfl
      have := ih i (by simpa using hi) (fun j x hj hx => hlow (j + 1) x (by omega) (by simpa using hx)) ⟨g, by simpa using hg, hga⟩
      unfold idxAt
      rw [if_neg h0, this]
      rfl
theorem idxAt_none (fs : List FateP) (a : Int) (h : ∀ (j : Nat) (f : FateP), fs[j]? = some f → f.at_ ≠ a) : idxAt fs a = -1 := by
  rcases idxAt_spec fs a with ⟨h1, _⟩ | ⟨i, f, _, h2, h3⟩
  · exact h1
  · have := List.find?_some h3
    exact absurd (by simpa using this) (h i f h2)
set_option maxRecDepth 100000 in
theorem dstepc_any (f : FateP) (a : Int) (ga : Nat) (w : World) (hB : Blk w ga 3 #[.int .i64 a]) (b : Bool) (hb : decide (f.at_ = a) = b) :
    Calls Tryz.prog 93 #[.agg #[.int .i64 f.at_, .int .i64 f.what, .int .i64 f.keep, .int .i64 f.torn], .pointer (some ⟨ga, 0, none⟩)] w fun e w' => e = .returned (.bool b) ∧ Off [] w w' := by
  have hc := hB.cell
  have hl := hB.lt
  have HBB := Lib.hid hb
  clear hB hb
  go_enter Tryz.func93, Tryz.ntmps93
  go_wp2_with fail
  go_ret
  exact ⟨by rw [← HBB.out]; rfl, (Off.refl _ _).alloc _⟩
set_option maxRecDepth 100000 in
set_option maxHeartbeats 4000000 in
theorem dfind_any (fv : Value) (fb : List Nat) (fs : List FateP) (a : Int) (ga n : Nat) (w : World) (hF : FatesAt w fv fb fs) (hn : fs.length = n) (hb : n ≤ 1000000000000) (hB : Blk w ga 3 #[.int .i64 a]) :
    Calls Tryz.prog 92 #[fv, .func (.func 93) #[] #[.pointer (some ⟨ga, 0, none⟩)]] w fun e w' => e = .returned (.int .i64 (idxAt fs a)) ∧ Off [] w w' := by
  obtain ⟨p, c, rfl, hc, hf⟩ := hF
  have HN := Lib.hid hn
  have HB := Lib.hid hB
  have HF := Lib.hid hf
  rw [hn]
  obtain ⟨v, hv⟩ : ∃ v, idxAt fs a = v := ⟨_, rfl⟩
  have HV := Lib.hid hv
  rw [hv]
  clear hn hB hc hf hv
  go_enter Tryz.func92, Tryz.ntmps92
  go_wp2_with fail
  go_loopw [5, 8] (fun _ y wr => ∃ i : Nat, y = .int .i64 i ∧ i ≤ n ∧ Off [] w wr ∧ Hid (∀ (j : Nat) (f : FateP), j < i → fs[j]? = some f → f.at_ ≠ a)) (fun _ y _ => n - (intOf y).toNat)
  case atStart => exact ⟨0, rfl, by omega, Off.refl _ _, Lib.hid (fun j f h => absurd h (Nat.not_lt_zero _))⟩
  case round =>
    obtain ⟨i, rfl, hi, ho, HLOW⟩ := hrel
    by_cases hlt : i < n
    · have hil : i < fs.length := by rw [HN.out]; exact hlt
      have hx := List.getElem?_eq_getElem hil
      have hne : fs ≠ [] := by intro e; rw [e] at hil; simp at hil
      obtain ⟨g, rfl, hg, hgl, hcell⟩ := HF.out hne
      have hcs := hcell i _ hx
      have HX := Lib.hid hx
      generalize fs[i] = f at hcs HX
      have c0 : wr.cell? ⟨g, i * 4, none⟩ = some (.int .i64 f.at_) := (ho.cell (p := ⟨g, i * 4, none⟩) hgl (by simp)).trans (hcs 0 _ rfl)
      have c1 : wr.cell? ⟨g, i * 4 + 1, none⟩ = some (.int .i64 f.what) := (ho.cell (p := ⟨g, i * 4 + 1, none⟩) hgl (by simp)).trans (hcs 1 _ rfl)
      have c2 : wr.cell? ⟨g, i * 4 + 2, none⟩ = some (.int .i64 f.keep) := (ho.cell (p := ⟨g, i * 4 + 2, none⟩) hgl (by simp)).trans (hcs 2 _ rfl)
      have c3 : wr.cell? ⟨g, i * 4 + 3, none⟩ = some (.int .i64 f.torn) := (ho.cell (p := ⟨g, i * 4 + 3, none⟩) hgl (by simp)).trans (hcs 3 _ rfl)
      have HC := Lib.hid (fun (b : Bool) (hb : decide (f.at_ = a) = b) => dstepc_any f a ga wr (HB.out.off ho (by simp)) b hb)
      clear hcs hcell hx hne hg hgl hil
      cases hd : decide (f.at_ = a)
      · have HC2 := Lib.hid (HC.out false hd)
        have HNE := Lib.hid (of_decide_eq_false hd)
        clear HC hd
        go_wp2_with fail
        refine HC2.out.mono ?_
        rintro e w2 ⟨rfl, ho2⟩
        have ho := ho.trans_nil ho2
        clear c0 c1 c2 c3 ho2
        go_wp2_with fail
        refine ⟨⟨i + 1, by congr 1, by omega, ho, Lib.hid (fun j y hj hy => ?_)⟩, by simp only [intOf]; omega⟩
        rcases Nat.lt_or_ge j i with h | h
        · exact HLOW.out j y h hy
        · obtain rfl : j = i := by omega
          rw [HX.out] at hy
          cases hy
          exact HNE.out
      · have HC2 := Lib.hid (HC.out true hd)
        have HE := Lib.hid (idxAt_drop fs a i (by rw [HN.out]; exact hlt) HLOW.out ⟨f, HX.out, of_decide_eq_true hd⟩)
        clear HC hd
        go_wp2_with fail
        refine HC2.out.mono ?_
        rintro e w2 ⟨rfl, ho2⟩
        have ho := ho.trans_nil ho2
        clear c0 c1 c2 c3 ho2
        go_wp2_with fail
        go_ret
        exact ⟨by rw [← HV.out, HE.out]; rfl, ho⟩
    · obtain rfl : i = n := by omega
      have HE := Lib.hid (idxAt_none fs a (fun j f hj => HLOW.out j f (by rw [← HN.out]; exact (List.getElem?_eq_some_iff.1 hj).1) hj))
      go_wp2_with fail
      go_ret
      exact ⟨by rw [← HV.out, HE.out]; rfl, ho⟩
end Go.Proofs.YtgcfkljooabjjaaGreatDoor

/- A disk's step, where no edit is laid: the walk. Conditions: what the contract states. -/
namespace Go.Proofs.YtgcfkljooabjjaaGreatDoor
open Go.RowKit Go.Op Go.Maps

theorem infoStr7 : (Tryz.prog.info? 9).map (fun i => (i.zero, i.size, i.bytes)) = some (some (.string ⟨#[]⟩), 1, 16) := by kernel_rfl
theorem infoDid : (Tryz.prog.info? 73).map (fun i => (i.zero, i.size, i.bytes)) = some (some (.agg #[.string ⟨#[]⟩, .string ⟨#[]⟩, .string ⟨#[]⟩]), 3, 48) := by kernel_rfl
/-- bounds that a run keeps far below -/
structure Few (D : PDisk) : Prop where
  later : D.later.length ≤ 100000000
  inos : D.inos.length ≤ 1000000000000
  trace : D.trace.length ≤ 100000000
  clock : D.clock ≤ 1000000000000
  fates : D.fates.length ≤ 1000000000000
  names : D.names.length ≤ 100000000
/-- a step of the trace goes behind those before -/
theorem DiskP.traced {w w' : World} {G : Geo} {D : PDisk} {tv : Value} {k : List Nat} {d : DidP} {c : Nat} (h : DiskP w G D) (ho : Off k w w') (hk : ∀ b ∈ k, b ∈ G.parts → b ∈ G.tv.ownBlock.toList)
    (hv : w'.ownsRow 0 73 3 tv (D.trace.length + 1) (didCells D.trace ++ [.string d.call, .string d.path, .string d.dest])) :
    DiskP w' { G with tv := tv } { D with trace := D.trace ++ [d], clock := c } := by
  have hl : ∀ b ∈ k, b ∈ G.parts → ∃ cs, Blk w b 73 cs := fun b hb hp => own_lt h.trace b (hk b hb hp)
  have mp : ∀ b ∈ G.parts, IsMapB w b → b ∉ k := fun b hb hm hin => by
    obtain ⟨cs, hB⟩ := hl b hin hb
    exact hm.ne hB rfl
  have ty : ∀ b ∈ G.parts, ∀ t cs, Blk w b t cs → t ≠ 73 → b ∉ k := fun b hb t cs hB ht hin => by
    obtain ⟨cs', hB'⟩ := hl b hin hb
    exact hB.ne_ hB' ht rfl
  have r1 : ∀ b ∈ G.rest, b ∈ G.parts := fun b hb => List.mem_cons_of_mem _ hb
  exact {
    names := h.names.off ho (mp _ (List.mem_cons_self ..) h.names.isMap)
    safe := h.safe.off ho (fun x hx => mp x (r1 _ (mem_rest.2 (.inl hx))) (by
      have := h.safe
      cases hs : G.sb with
      | none => rw [hs] at hx; simp at hx
      | some s =>
        rw [hs] at hx this
        simp at hx
        subst hx
        exact NMat.isMap this))
    later := own_offk h.later ho (fun x hx => by
      obtain ⟨cs, hB⟩ := own_lt h.later x hx
      exact ty x (r1 _ (mem_rest.2 (.inr (.inr (.inr (.inr (.inl hx))))))) _ _ hB (by decide))
    lbl := h.lbl
    laters := fun i b l h1 h2 => by
      have hN := h.laters i b l h1 h2
      exact hN.off ho (mp b (r1 _ (mem_rest.2 (.inr (.inr (.inl (List.mem_of_getElem? h1)))))) hN.isMap)
    ino := h.ino.off ho (mp _ (r1 _ (mem_rest.2 (.inr (.inl rfl)))) h.ino.isMap)
    qsl := h.qsl
    inos := fun i q n h1 h2 => by
      have hB := h.inos i q n h1 h2
      exact hB.off ho (ty q (r1 _ (mem_rest.2 (.inr (.inr (.inr (.inl (List.mem_of_getElem? h1))))))) _ _ hB (by decide))
    nodup := h.nodup
    trace := by
      show w'.ownsRow 0 73 3 tv (D.trace ++ [d]).length (didCells (D.trace ++ [d]))
      rw [List.length_append]
      have e : didCells (D.trace ++ [d]) = didCells D.trace ++ [.string d.call, .string d.path, .string d.dest] := by simp [didCells]
      rw [e]
      exact hv
    fates := h.fates.off ho (fun x hx => by
      obtain ⟨cs, hB⟩ := h.fbl x hx
      exact ty x (r1 _ (mem_rest.2 (.inr (.inr (.inr (.inr (.inr (.inr hx)))))))) _ _ hB (by decide))
    fbl := fun g hg => by
      obtain ⟨cs, hB⟩ := h.fbl g hg
      exact ⟨cs, hB.off ho (ty g (r1 _ (mem_rest.2 (.inr (.inr (.inr (.inr (.inr (.inr hg)))))))) _ _ hB (by decide))⟩
    apart := h.apart }
theorem row_len {w : World} {base e sz n : Nat} {v : Value} {xs : List Value} (h : w.ownsRow base e sz v n xs) : ∃ p c, v = .slice p n c := by
  rcases h.2 with ⟨h1, h2⟩ | ⟨g, cap, cur, h1, _⟩
  · exact ⟨none, 0, by rw [h1, h2]⟩
  · exact ⟨_, _, h1⟩
theorem cell_three_at {w : World} {g : Nat} {t : TypeId} {x y z : Value} (h : Blk w g t #[x, y, z]) : ∀ j u, [x, y, z][j]? = some u → w.cell? ((⟨g, 0, none⟩ : Addr).add j) = some u := by
  intro j u hj
  rw [addr_add, h.cell]
  simpa using hj
def strVals (xs : List ByteArray) : List Value := xs.map .string
theorem two_more (xs : List ByteArray) : (strVals xs ++ [.string ⟨#[]⟩, .string ⟨#[]⟩])[0]? = some (.string (xs.getD 0 ⟨#[]⟩)) ∧ (strVals xs ++ [.string ⟨#[]⟩, .string ⟨#[]⟩])[1]? = some (.string (xs.getD 1 ⟨#[]⟩)) := by
  match xs with
  | [] => exact ⟨rfl, rfl⟩
  | [a] => exact ⟨rfl, rfl⟩
  | a :: b :: l => exact ⟨rfl, rfl⟩
theorem own_cells {w : World} {base n : Nat} {v : Value} {xs : List Value} (h : w.ownsRow base 9 1 v n xs) (hn : 0 < n) : ∃ g c, v = .slice (some ⟨g, 0, none⟩) n c ∧ base ≤ g ∧ g < w.heap.size ∧ n ≤ c ∧ (∃ cs, Blk w g 9 cs) ∧ ∀ (i : Nat) (u : Value), xs[i]? = some u → w.cell? ⟨g, i, none⟩ = some u := by
  rcases h.2 with ⟨_, h2⟩ | ⟨g, cap, cur, rfl, hb, hh, hc, _⟩
  · omega
  · obtain ⟨cur', hB, _, _, hk⟩ := own_blk h hn
    exact ⟨g, cap, rfl, hb, hB.lt, hc, ⟨_, hB⟩, fun i u hu => (hB.cell i).trans (hk i u hu)⟩
/-- behind the trace's append -/
def StepMid (w : World) (p ga T : Nat) (G : Geo) (E : PDisk) (wx : World) : Prop :=
  ∃ G', DiskM wx p G' E ∧ G'.sb = G.sb ∧ Off (p :: G.parts) w wx ∧ (∀ b ∈ G'.parts, b ∈ G.parts ∨ w.heap.size ≤ b) ∧ Blk wx ga 3 #[.int .i64 T]
theorem step_mid {w W w7 : World} {p ga T cl gg cap : Nat} {pt : Option Addr} {ct : Nat} {G : Geo} {D : PDisk} {call P1 P2 : ByteArray} {o : Obj} (hM : DiskM w p G D) (htv : G.tv = .slice pt T ct) (hT : D.trace.length = T) (hcl : D.clock = cl)
    (hB : Blk W p 99 ((diskCells G D).setIfInBounds 6 (.int .i64 (cl + 1)))) (ho : Off [p] w W) (hb : Blk W ga 3 #[.int .i64 T]) (hP : DiskP W G D)
    (hown : w7.ownsRow 0 73 3 (.slice (some ⟨gg, 0, none⟩) (T + 1) cap) (T + 1) (didCells D.trace ++ [.string call, .string P1, .string P2])) (hg : (W.alloc o).drew.grownBy w7 (Value.slice pt T ct).ownBlock) (hat : (Value.slice pt T ct).ownBlock = some gg ∨ gg = W.heap.size + 1) :
    StepMid w p ga T G { D with clock := D.clock + 1, trace := D.trace ++ [⟨call, P1, P2⟩] } (w7.setCell ⟨p, 7, none⟩ (.slice (some ⟨gg, 0, none⟩) (T + 1) cap)) := by
  rw [← htv] at hg hat
  have hlr : ∀ b ∈ G.tv.ownBlock.toList, b ∈ G.rest := fun b hb => mem_rest.2 (.inr (.inr (.inr (.inr (.inr (.inl hb))))))
  have ho7 : Off G.tv.ownBlock.toList W w7 := ((Off.refl _ W).alloc o).drew.grown hg (fun x hx => .inr (by rw [hx]; simp))
  have hP7 := hP.traced (tv := .slice (some ⟨gg, 0, none⟩) (T + 1) cap) (d := ⟨call, P1, P2⟩) (c := D.clock + 1) ho7 (fun b hb _ => hb) (by rw [hT]; exact hown)
  have hpl : p ∉ G.tv.ownBlock.toList := fun h => hM.far (List.mem_cons_of_mem _ (hlr p h))
  have hB7 := hB.off ho7 hpl
  have hga : ga ∉ G.tv.ownBlock.toList := fun h => by
    obtain ⟨cs, hBc⟩ := own_lt hP.trace ga h
    exact hb.ne_ hBc (by decide) rfl
  have hgap : ga ≠ p := hb.ne_ hB (by decide)
  refine ⟨{ G with tv := .slice (some ⟨gg, 0, none⟩) (T + 1) cap }, ⟨?_, hP7.off (k := [p]) ((Off.refl [p] w7).setCell (.inr (by simp)) _) (fun b hb h => ?_)⟩, rfl, ?_, fun b hb => ?_, (hb.off ho7 hga).far hgap _⟩
  · have := hB7.set_ 7 (.slice (some ⟨gg, 0, none⟩) (T + 1) cap)
    unfold diskCells at this ⊢
    subst hcl
    simpa using this
  · simp at h; subst h
    exact hP7.far hB7 (by decide) hb
  · refine ((ho.mono (fun x _ h => by simp at h; subst h; exact List.mem_cons_self ..)).trans ho7 (fun x _ h => List.mem_cons_of_mem _ (List.mem_cons_of_mem _ (hlr x h)))).setCell (.inr (by simp)) _
  · have hsz := ho.size
    rcases List.mem_cons.1 hb with rfl | hb
    · exact .inl (List.mem_cons_self ..)
    · rcases mem_rest.1 hb with h | h | h | h | h | h | h
      · exact .inl (List.mem_cons_of_mem _ (mem_rest.2 (.inl h)))
      · exact .inl (List.mem_cons_of_mem _ (mem_rest.2 (.inr (.inl h))))
      · exact .inl (List.mem_cons_of_mem _ (mem_rest.2 (.inr (.inr (.inl h)))))
      · exact .inl (List.mem_cons_of_mem _ (mem_rest.2 (.inr (.inr (.inr (.inl h))))))
      · exact .inl (List.mem_cons_of_mem _ (mem_rest.2 (.inr (.inr (.inr (.inr (.inl h)))))))
      · simp [Value.ownBlock] at h
        subst h
        rcases hat with h | h
        · exact .inl (List.mem_cons_of_mem _ (hlr b (by rw [h]; simp)))
        · exact .inr (by omega)
      · exact .inl (List.mem_cons_of_mem _ (mem_rest.2 (.inr (.inr (.inr (.inr (.inr (.inr h))))))))
set_option maxRecDepth 100000 in
set_option maxHeartbeats 8000000 in
theorem dstep_any (p k : Nat) (ao : Option Addr) (G : Geo) (D : PDisk) (call : ByteArray) (xs : List ByteArray) (w : World) (hM : DiskM w p G D) (hsb : G.sb.isSome = true) (hF : Few D)
    (hx : xs.length = k) (hk : k ≤ 2) (hn : ao = none → k = 0) (hc : ∀ b, ao = some b → ∀ j u, (strVals xs)[j]? = some u → w.cell? (b.add j) = some u) (hbl : ∀ b, ao = some b → b.block ≠ p ∧ b.block < w.heap.size) :
    Calls Tryz.prog 47 #[.pointer (some ⟨p, 0, none⟩), .string call, .slice ao k k] w fun e w' =>
      e = .returned (.tuple #[.bool (D.step call (xs.getD 0 ⟨#[]⟩) (xs.getD 1 ⟨#[]⟩)).1, .int .i64 (D.step call (xs.getD 0 ⟨#[]⟩) (xs.getD 1 ⟨#[]⟩)).2.1]) ∧ DiskTo w p G.parts w' (D.step call (xs.getD 0 ⟨#[]⟩) (xs.getD 1 ⟨#[]⟩)).2.2 := by
  obtain ⟨i0, hi0, hz0, hz1, hz2⟩ := info_parts infoStr7
  obtain ⟨i1, hi1, hy0, hy1, hy2⟩ := info_parts infoDid
  have HM := Lib.hid hM
  have HSB := Lib.hid hsb
  have HF := Lib.hid hF
  have HXL := Lib.hid hx
  have HN := Lib.hid hn
  have HC := Lib.hid hc
  have HBL := Lib.hid hbl
  obtain ⟨T, hT⟩ : ∃ T, D.trace.length = T := ⟨_, rfl⟩
  have HT := Lib.hid hT
  obtain ⟨pt, ct, htv⟩ := row_len hM.parts.trace
  rw [hT] at htv
  have HTV := Lib.hid htv
  have hTb : T ≤ 100000000 := by rw [← hT]; exact hF.trace
  obtain ⟨cl, hcl⟩ : ∃ cl, D.clock = cl := ⟨_, rfl⟩
  have HCL := Lib.hid hcl
  have hclb : cl ≤ 1000000000000 := by rw [← hcl]; exact hF.clock
  have hc0 := hM.blk.cell
  have hf0 := hM.blk.frozen
  have hl0 := hM.blk.lt
  unfold diskCells at hc0
  rw [htv, hcl] at hc0
  cases ho : D.off
  case true =>
    rw [ho] at hc0
    have HS := Lib.hid (show D.step call (xs.getD 0 ⟨#[]⟩) (xs.getD 1 ⟨#[]⟩) = (false, 75, D) by unfold PDisk.step; rw [ho]; rfl)
    clear hM hsb hF hx hn hc hbl hT htv hcl ho
    go_enter Tryz.func47, Tryz.ntmps47
    go_wp2_with fail
    go_ret2
    rw [HS.out]
    exact ⟨rfl, DiskTo.refl HM.out HSB.out⟩
  case false =>
    rw [ho] at hc0
    have HOF := Lib.hid ho
    clear hM hsb hF hx hn hc hbl hT htv hcl ho
    go_enter Tryz.func47, Tryz.ntmps47
    go_wp2_with fail
    have hb0 := Blk.new w 3 #[.int .i64 T]
    have ho0 := (Off.refl [] w).alloc (.cells #[.int .i64 T] 3)
    clear hc0 hf0 hl0
    go_loopw [30] (fun x wr => x = .int .i64 0 ∧ Blk wr w.heap.size 3 #[.int .i64 T] ∧ Off [] w wr) (fun _ _ => 0)
    case atStart => exact ⟨rfl, hb0, ho0⟩
    case round =>
      clear hb0 ho0
      obtain ⟨rfl, hb, ho⟩ := hrel
      have HB := Lib.hid hb
      have HO := Lib.hid ho
      have hBp := HM.out.blk.off ho (by simp)
      have HBP := Lib.hid hBp
      have hc0 := hBp.cell
      have hf0 := hBp.frozen
      have hl0 := hBp.lt
      have hlw := ho.size
      unfold diskCells at hc0
      rw [HTV.out, HCL.out, HOF.out] at hc0
      have HCW := Lib.hid (show ∀ b, ao = some b → ∀ j u, (strVals xs)[j]? = some u → (wr.alloc (.cells #[.string ⟨#[]⟩, .string ⟨#[]⟩] 9)).cell? (b.add j) = some u from fun b hb j u hu => by
        have h1 := HC.out b hb j u hu
        have h2 := (HBL.out b hb).2
        have h3 := ((ho.alloc (.cells #[.string ⟨#[]⟩, .string ⟨#[]⟩] 9)).cell (p := b.add j) (by rw [add_block]; exact h2) (by simp))
        rw [h3]; exact h1)
      have HSL := Lib.hid (show (strVals xs).length = k * 1 by unfold strVals; rw [List.length_map, HXL.out]; omega)
      clear hb ho hBp
      go_upto_region 10 with fail
      go_upto_region 11 with (at_builtin; refine wpList_append_grows _ rfl _ _ 47 rfl 9 i0 _ 1 16 Tryz.underlying47 hi0 hz0 hz1 hz2 rfl (by decide) ao k k (strVals xs) rfl (fun h => ⟨HN.out h, HN.out h⟩) HSL.out HCW.out ⟨wr.heap.size, 0, none⟩ 2 2 [.string ⟨#[]⟩, .string ⟨#[]⟩] rfl rfl (cell_two_at (Blk.new wr _ _)) (by simp [Value.oneCell']) (by omega) (by unfold maxLen; omega) (by omega) ?_; intro v' w5 hown hgrow; obtain ⟨g5, c5, rfl, hge, hlt5, hkc, hst, hce⟩ := own_cells hown (by omega))
      obtain ⟨P1, hP1⟩ : ∃ P1, xs.getD 0 ⟨#[]⟩ = P1 := ⟨_, rfl⟩
      obtain ⟨P2, hP2⟩ : ∃ P2, xs.getD 1 ⟨#[]⟩ = P2 := ⟨_, rfl⟩
      have hw5 : Off [] wr w5 := ((Off.refl [] wr).alloc _).grown hgrow (fun k hk => by cases hk)
      refine code_gen (fun W => Blk W p 99 (diskCells G D) ∧ Off [] w W ∧ Blk W w.heap.size 3 #[.int .i64 T] ∧ (∃ cs, Blk W g5 9 cs) ∧ W.cell? ⟨g5, 0, none⟩ = some (.string P1) ∧ W.cell? ⟨g5, 1, none⟩ = some (.string P2))
        ⟨HBP.out.off hw5 (by simp), HO.out.trans_nil hw5, HB.out.off hw5 (by simp), hst, by rw [← hP1]; exact hce 0 _ (two_more xs).1, by rw [← hP2]; exact hce 1 _ (two_more xs).2⟩ ?_
      clear hc0 hf0 hl0 hown hgrow hst hce hw5 hge hlt5
      rintro W5 ⟨hBp, ho5, hb5, hst5, hs1, hs2⟩
      have HBP5 := Lib.hid hBp
      have HO5 := Lib.hid ho5
      have HB5 := Lib.hid hb5
      have HST5 := Lib.hid hst5
      have HS1 := Lib.hid hs1
      have HS2 := Lib.hid hs2
      have HPP := Lib.hid (And.intro hP1 hP2)
      have hc0 := hBp.cell
      have hf0 := hBp.frozen
      have hl0 := hBp.lt
      unfold diskCells at hc0
      rw [HTV.out, HCL.out, HOF.out] at hc0
      clear hBp ho5 hb5 hst5 hP1 hP2 hs1 hs2
      go_upto_region 12 with fail
      have hg5p : g5 ≠ p := by
        obtain ⟨cs, hB⟩ := HST5.out
        exact hB.ne_ HBP5.out (by decide)
      have hgap : w.heap.size ≠ p := HB5.out.ne_ HBP5.out (by decide)
      refine code_gen (fun W => Blk W p 99 ((diskCells G D).setIfInBounds 6 (.int .i64 (cl + 1))) ∧ Off [p] w W ∧ Blk W w.heap.size 3 #[.int .i64 T] ∧ W.cell? ⟨g5, 0, none⟩ = some (.string P1) ∧ W.cell? ⟨g5, 1, none⟩ = some (.string P2) ∧ DiskP W G D ∧ g5 < W.heap.size)
        ⟨HBP5.out.set_ 6 _, (HO5.out.mono (fun _ _ h => by simp at h)).setCell (.inr (by simp)) _, HB5.out.far hgap _, ?_, ?_, ?_, ?_⟩ ?_
      · obtain ⟨cs, hB⟩ := HST5.out
        have h1 := HS1.out
        rw [hB.cell] at h1
        rw [(hB.far hg5p _).cell]; exact h1
      · obtain ⟨cs, hB⟩ := HST5.out
        have h1 := HS2.out
        rw [hB.cell] at h1
        rw [(hB.far hg5p _).cell]; exact h1
      · refine (HM.out.parts.off HO5.out (by simp)).off (k := [p]) ((Off.refl [p] W5).setCell (.inr (by simp)) _) (fun b hb h => ?_)
        simp at h; subst h; exact HM.out.far hb
      · obtain ⟨cs, hB⟩ := HST5.out
        exact (hB.far hg5p _).lt
      clear hc0 hf0 hl0
      rintro W6 ⟨hBp, ho6, hb6, hs1, hs2, hP6, hlg⟩
      have HBP6 := Lib.hid hBp
      have HO6 := Lib.hid ho6
      have HB6 := Lib.hid hb6
      have HP6 := Lib.hid hP6
      have hc0 := hBp.cell
      have hf0 := hBp.frozen
      have hl0 := hBp.lt
      unfold diskCells at hc0
      simp only [List.setIfInBounds_toArray, List.set_cons_zero, List.set_cons_succ] at hc0
      rw [HTV.out, HOF.out] at hc0
      have hpl : some p ≠ G.tv.ownBlock := fun e => HM.out.far (List.mem_cons_of_mem _ (mem_rest.2 (.inr (.inr (.inr (.inr (.inr (.inl (by rw [← e]; simp)))))))))
      have HPL := Lib.hid hpl
      have hown6 : (W6.alloc (.cells #[.string call, .string P1, .string P2] 73)).drew.ownsRow 0 73 3 (.slice pt T ct) T (didCells D.trace) := by
        have := own_offk (k := []) hP6.trace (((Off.refl [] W6).alloc (.cells #[.string call, .string P1, .string P2] 73)).drew) (by simp)
        rw [HTV.out, HT.out] at this
        exact this
      have HW6 := Lib.hid hown6
      clear hBp ho6 hb6 hP6 hpl hown6 hg5p hgap
      have hk0 : (0 : Int) < (k : Int) + 2 := by omega
      have hk1 : (1 : Int) < (k : Int) + 2 := by omega
      go_cut [] from 52 to 68 (fun wx => StepMid w p w.heap.size T G { D with clock := D.clock + 1, trace := D.trace ++ [⟨call, P1, P2⟩] } wx)
      case first =>
        go_region_law ((refine step_append_lies _ (by rfl) _ _ _ (by rfl) 0 73 i1 _ 3 48 Tryz.underlying67 hi1 hy0 hy1 hy2 rfl (by decide) _ T _ (by rfl) HW6.out ⟨W6.heap.size, 0, none⟩ 1 1 [_, _, _] (by rfl) (by rfl) (cell_three_at (Blk.new W6 _ _)) (by simp [Value.oneCell']) (by omega) (by unfold maxLen; omega) (by omega) (by simp) (W6.heap.size + 1) (by simp) ?_; intro gg cap w7 hown7 hgrow7 hat7 hlt7; have hB7 := ((HBP6.out.alloc _).drew).grown hgrow7 (by rw [← HTV.out]; exact HPL.out); have hc7 := hB7.cell; have hf7 := hB7.frozen; unfold diskCells at hc7))
        all_goals go_wp2_with fail
        all_goals go_meet
        all_goals exact step_mid HM.out HTV.out HT.out HCL.out HBP6.out HO6.out HB6.out HP6.out (by assumption) (by assumption) (by assumption)
      case rest =>
        obtain ⟨G3, hM3, hsb3, ho3, hp3, hb3⟩ := hcut
        have HSTEP := Lib.hid (show D.step call P1 P2 = match D.fates.find? (fun f => decide (f.at_ = (T : Int))) with
          | none => (false, 0, { D with clock := D.clock + 1, trace := D.trace ++ [⟨call, P1, P2⟩] })
          | some f => if f.what = 3 then (false, 75, ({ D with clock := D.clock + 1, trace := D.trace ++ [⟨call, P1, P2⟩] } : PDisk).crash f) else if f.what = 1 then (false, 70, { D with clock := D.clock + 1, trace := D.trace ++ [⟨call, P1, P2⟩] }) else (decide (f.what = 2), 0, { D with clock := D.clock + 1, trace := D.trace ++ [⟨call, P1, P2⟩] }) from by
          unfold PDisk.step
          rw [HOF.out, HT.out]
          rfl)
        have HEF := Lib.hid (show ({ D with clock := D.clock + 1, trace := D.trace ++ [⟨call, P1, P2⟩] } : PDisk).fates = D.fates from rfl)
        have HEL := Lib.hid (show ({ D with clock := D.clock + 1, trace := D.trace ++ [⟨call, P1, P2⟩] } : PDisk).later.length ≤ 1000000000 from Nat.le_trans HF.out.later (by decide))
        have HEI := Lib.hid (show ({ D with clock := D.clock + 1, trace := D.trace ++ [⟨call, P1, P2⟩] } : PDisk).inos.length ≤ 1152921504606846976 from Nat.le_trans HF.out.inos (by decide))
        generalize ({ D with clock := D.clock + 1, trace := D.trace ++ [⟨call, P1, P2⟩] } : PDisk) = E at hM3 HSTEP HEF HEL HEI
        clear hc0 hf0 hl0 hs1 hs2
        have HM3 := Lib.hid hM3
        have HO3 := Lib.hid ho3
        have HP3 := Lib.hid hp3
        have HSB3 := Lib.hid (show G3.sb.isSome = true by rw [hsb3]; exact HSB.out)
        have HB3 := Lib.hid hb3
        have hfts := hM3.parts.fates
        obtain ⟨n, hn⟩ : ∃ n, E.fates.length = n := ⟨_, rfl⟩
        have HNF := Lib.hid hn
        have hnb : n ≤ 1000000000000 := by rw [← hn, HEF.out]; exact HF.out.fates
        obtain ⟨pf, cf, hfv, -, hfc⟩ := hfts
        rw [hn] at hfv
        have HFV := Lib.hid hfv
        have HFC := Lib.hid hfc
        have hc0 := hM3.blk.cell
        have hf0 := hM3.blk.frozen
        have hl0 := hM3.blk.lt
        unfold diskCells at hc0
        rw [hfv] at hc0
        have HFIND := Lib.hid (dfind_any G3.fv G3.fb E.fates T w.heap.size n wc hM3.parts.fates hn hnb hb3)
        rw [hfv] at HFIND
        clear hM3 ho3 hp3 hsb3 hb3 hfv hfc hn
        go_wp2_with fail
        refine HFIND.out.mono ?_
        rintro e w8 ⟨rfl, ho8⟩
        have hM8 := HM3.out.off ho8 (by simp) (by simp)
        have HM8 := Lib.hid hM8
        have HO8 := Lib.hid (HO3.out.trans_nil ho8)
        clear hc0 hf0 hl0
        have hc0 := hM8.blk.cell
        have hf0 := hM8.blk.frozen
        have hl0 := hM8.blk.lt
        unfold diskCells at hc0
        rw [HFV.out] at hc0
        clear hM8
        have HEND := Lib.hid (DiskTo.next HO8.out HP3.out (DiskTo.refl HM8.out HSB3.out))
        rcases idxAt_spec E.fates T with ⟨h1, h2⟩ | ⟨i, f, h1, h2, h3⟩
        · have HS := Lib.hid (show D.step call P1 P2 = (false, 0, E) by rw [HSTEP.out, ← HEF.out, h2])
          rw [h1]
          clear h1 h2 ho8 HSTEP
          go_wp2_with fail
          go_ret2
          rw [HPP.out.1, HPP.out.2, HS.out]
          exact ⟨rfl, HEND.out⟩
        · have HS0 := Lib.hid (show D.step call P1 P2 = if f.what = 3 then (false, 75, E.crash f) else if f.what = 1 then (false, 70, E) else (decide (f.what = 2), 0, E) by rw [HSTEP.out, ← HEF.out, h3])
          have hin : i < n := by rw [← HNF.out]; exact (List.getElem?_eq_some_iff.1 h2).1
          have hne : E.fates ≠ [] := by intro e; rw [e] at h2; simp at h2
          obtain ⟨g, rfl, hg, hgl, hcell⟩ := HFC.out hne
          have hcs := hcell i f h2
          have c0 : w8.cell? ⟨g, i * 4, none⟩ = some (.int .i64 f.at_) := (ho8.cell (p := ⟨g, i * 4, none⟩) hgl (by simp)).trans (hcs 0 _ rfl)
          have c1 : w8.cell? ⟨g, i * 4 + 1, none⟩ = some (.int .i64 f.what) := (ho8.cell (p := ⟨g, i * 4 + 1, none⟩) hgl (by simp)).trans (hcs 1 _ rfl)
          have c2 : w8.cell? ⟨g, i * 4 + 2, none⟩ = some (.int .i64 f.keep) := (ho8.cell (p := ⟨g, i * 4 + 2, none⟩) hgl (by simp)).trans (hcs 2 _ rfl)
          have c3 : w8.cell? ⟨g, i * 4 + 3, none⟩ = some (.int .i64 f.torn) := (ho8.cell (p := ⟨g, i * 4 + 3, none⟩) hgl (by simp)).trans (hcs 3 _ rfl)
          have hinn : (i : Int) < n := by omega
          rw [h1]
          clear h1 h2 h3 hne hg hcell hcs HSTEP ho8 HFC
          by_cases h3 : f.what = 3
          · have HS := Lib.hid (show D.step call P1 P2 = (false, 75, E.crash f) by rw [HS0.out, if_pos h3])
            have hq3 : (f.what == 3) = true := by rw [h3]; rfl
            clear HS0 h3
            go_wp2_with fail
            refine (dcrash_any p G3 E f w8 HM8.out HSB3.out HEL.out HEI.out).mono ?_
            rintro e w9 ⟨rfl, hT⟩
            clear hc0 hf0 hl0 c0 c1 c2 c3 hq3
            go_wp2_with fail
            go_ret2
            rw [HPP.out.1, HPP.out.2, HS.out]
            exact ⟨rfl, DiskTo.next HO8.out HP3.out hT⟩
          · have hq3 : (f.what == 3) = false := beq_eq_false_iff_ne.2 h3
            by_cases h4 : f.what = 1
            · have HS := Lib.hid (show D.step call P1 P2 = (false, 70, E) by rw [HS0.out, if_neg h3, if_pos h4])
              have hq4 : (f.what == 1) = true := by rw [h4]; rfl
              clear HS0 h3 h4
              go_wp2_with fail
              go_ret2
              rw [HPP.out.1, HPP.out.2, HS.out]
              exact ⟨rfl, HEND.out⟩
            · have HS := Lib.hid (show D.step call P1 P2 = (decide (f.what = 2), 0, E) by rw [HS0.out, if_neg h3, if_neg h4])
              have hq4 : (f.what == 1) = false := beq_eq_false_iff_ne.2 h4
              clear HS0 h3 h4
              go_wp2_with fail
              go_ret2
              rw [HPP.out.1, HPP.out.2, HS.out]
              exact ⟨rfl, HEND.out⟩
end Go.Proofs.YtgcfkljooabjjaaGreatDoor

/- A disk's On, Flush, Sync: the walks. Conditions: what each contract states. -/
namespace Go.Proofs.YtgcfkljooabjjaaGreatDoor
open Go.RowKit Go.Op Go.Maps

theorem DiskP.flushed {w : World} {G : Geo} {D : PDisk} (h : DiskP w G D) : DiskP w { G with sb := some G.nb, lv := .slice none 0 0, lb := [] } { D with safe := D.names, later := [] } where
  names := h.names
  safe := h.names
  later := World.ownsRow_nil w 0 _ 1
  lbl := rfl
  laters := fun i b l h1 _ => by simp at h1
  ino := h.ino
  qsl := h.qsl
  inos := h.inos
  nodup := h.nodup
  trace := h.trace
  fates := h.fates
  fbl := h.fbl
  apart := ⟨h.apart.1, fun e => h.apart.1 (by injection e with e; exact e.symm), by simp⟩
/-- an inode is written anew -/
theorem DiskP.inoSet {w w' : World} {G : Geo} {D : PDisk} {i q : Nat} {n : Ino} {k : List Nat} (h : DiskP w G D) (ho : Off k w w') (hk : ∀ b ∈ k, b ∈ G.parts → b = q) (hq : G.qs[i]? = some q) (hB : Blk w' q 114 (inoCells n)) :
    DiskP w' G { D with inos := D.inos.set i n } := by
  have hqb : ∃ cs, Blk w q 114 cs := by
    have hl : i < D.inos.length := by rw [← h.qsl]; exact (List.getElem?_eq_some_iff.1 hq).1
    exact ⟨_, h.inos i q _ hq (List.getElem?_eq_getElem hl)⟩
  obtain ⟨cq, hqb⟩ := hqb
  have mp : ∀ b ∈ G.parts, IsMapB w b → b ∉ k := fun b hb hm hin => by
    have e := hk b hin hb
    rw [e] at hm
    exact hm.ne hqb rfl
  have ty : ∀ b ∈ G.parts, ∀ t cs, Blk w b t cs → t ≠ 114 → b ∉ k := fun b hb t cs hB ht hin => by
    have e := hk b hin hb
    rw [e] at hB
    exact hB.ne_ hqb ht rfl
  have r1 : ∀ b ∈ G.rest, b ∈ G.parts := fun b hb => List.mem_cons_of_mem _ hb
  exact {
    names := h.names.off ho (mp _ (List.mem_cons_self ..) h.names.isMap)
    safe := h.safe.off ho (fun x hx => mp x (r1 _ (mem_rest.2 (.inl hx))) (by
      have := h.safe
      cases hs : G.sb with
      | none => rw [hs] at hx; simp at hx
      | some s =>
        rw [hs] at hx this
        simp at hx
        subst hx
        exact NMat.isMap this))
    later := own_offk h.later ho (fun x hx => by
      obtain ⟨cs, hB⟩ := own_lt h.later x hx
      exact ty x (r1 _ (mem_rest.2 (.inr (.inr (.inr (.inr (.inl hx))))))) _ _ hB (by decide))
    lbl := h.lbl
    laters := fun i b l h1 h2 => by
      have hN := h.laters i b l h1 h2
      exact hN.off ho (mp b (r1 _ (mem_rest.2 (.inr (.inr (.inl (List.mem_of_getElem? h1)))))) hN.isMap)
    ino := h.ino.off ho (mp _ (r1 _ (mem_rest.2 (.inr (.inl rfl)))) h.ino.isMap)
    qsl := by simp [h.qsl]
    inos := fun j r m h1 h2 => by
      have h2 : (D.inos.set i n)[j]? = some m := h2
      by_cases hj : i = j
      · subst hj
        rw [hq] at h1
        cases h1
        have hl : i < D.inos.length := by rw [← h.qsl]; exact (List.getElem?_eq_some_iff.1 hq).1
        rw [List.getElem?_set_self hl] at h2
        cases h2
        exact hB
      · rw [List.getElem?_set_ne hj] at h2
        have hB' := h.inos j r m h1 h2
        have hne : r ≠ q := fun e => by
          subst e
          have h3 := (List.getElem?_eq_some_iff.1 h1)
          have h4 := (List.getElem?_eq_some_iff.1 hq)
          have h5 := List.pairwise_iff_getElem.1 h.nodup
          rcases Nat.lt_or_ge j i with h | h
          · exact h5 j i h3.1 h4.1 h (by rw [h3.2, h4.2])
          · exact h5 i j h4.1 h3.1 (by omega) (by rw [h3.2, h4.2])
        exact hB'.off ho (fun hin => hne (hk r hin (r1 _ (mem_rest.2 (.inr (.inr (.inr (.inl (List.mem_of_getElem? h1)))))))))
    nodup := h.nodup
    trace := own_offk h.trace ho (fun x hx => by
      obtain ⟨cs, hB⟩ := own_lt h.trace x hx
      exact ty x (r1 _ (mem_rest.2 (.inr (.inr (.inr (.inr (.inr (.inl hx)))))))) _ _ hB (by decide))
    fates := h.fates.off ho (fun x hx => by
      obtain ⟨cs, hB⟩ := h.fbl x hx
      exact ty x (r1 _ (mem_rest.2 (.inr (.inr (.inr (.inr (.inr (.inr hx)))))))) _ _ hB (by decide))
    fbl := fun g hg => by
      obtain ⟨cs, hB⟩ := h.fbl g hg
      exact ⟨cs, hB.off ho (ty g (r1 _ (mem_rest.2 (.inr (.inr (.inr (.inr (.inr (.inr hg)))))))) _ _ hB (by decide))⟩
    apart := h.apart }
set_option maxRecDepth 100000 in
theorem don_any (p : Nat) (G : Geo) (D : PDisk) (w : World) (hM : DiskM w p G D) :
    Calls Tryz.prog 36 #[.pointer (some ⟨p, 0, none⟩)] w fun e w' => e = .returned (.bool (!D.off)) ∧ Off [] w w' := by
  have hc := hM.blk.cell
  unfold diskCells at hc
  clear hM
  go_enter Tryz.func36, Tryz.ntmps36
  go_wp2_with fail
  go_ret
  exact ⟨rfl, Off.refl _ _⟩
/-- two steps in one -/
theorem DiskTo.trans {w w1 w2 : World} {p : Nat} {L : List Nat} {D1 D2 : PDisk} (h : DiskTo w p L w1 D1) (k : ∀ G1, DiskM w1 p G1 D1 → G1.sb.isSome = true → DiskTo w1 p G1.parts w2 D2) : DiskTo w p L w2 D2 := by
  obtain ⟨G1, hM, ho, hp, hs⟩ := h
  exact DiskTo.next ho hp (k G1 hM hs)
set_option maxRecDepth 100000 in
set_option maxHeartbeats 4000000 in
theorem dflush_any (p : Nat) (G : Geo) (D : PDisk) (w : World) (hM : DiskM w p G D) (hsb : G.sb.isSome = true) (hF : Few D) :
    Calls Tryz.prog 19 #[.pointer (some ⟨p, 0, none⟩)] w fun e w' => e = .returned (.int .i64 D.flush.1) ∧ DiskTo w p G.parts w' D.flush.2 := by
  have HST := Lib.hid (dstep_any p 0 none G D ⟨#[70, 108, 117, 115, 104]⟩ [] w hM hsb hF rfl (by omega) (fun _ => rfl) (fun b hb => by cases hb) (fun b hb => by cases hb))
  have HS := Lib.hid (show D.flush = match D.step ⟨#[70, 108, 117, 115, 104]⟩ ⟨#[]⟩ ⟨#[]⟩ with | (full, e, E) => if e ≠ 0 then (e, E) else (0, E.flush_) from rfl)
  clear hM hsb hF
  have HST := Lib.hid (show Calls Tryz.prog 47 #[.pointer (some ⟨p, 0, none⟩), .string ⟨#[70, 108, 117, 115, 104]⟩, .slice none 0 0] w fun e w' => e = .returned (.tuple #[.bool (D.step ⟨#[70, 108, 117, 115, 104]⟩ ⟨#[]⟩ ⟨#[]⟩).1, .int .i64 (D.step ⟨#[70, 108, 117, 115, 104]⟩ ⟨#[]⟩ ⟨#[]⟩).2.1]) ∧ DiskTo w p G.parts w' (D.step ⟨#[70, 108, 117, 115, 104]⟩ ⟨#[]⟩ ⟨#[]⟩).2.2 from HST.out)
  generalize D.step ⟨#[70, 108, 117, 115, 104]⟩ ⟨#[]⟩ ⟨#[]⟩ = st at HST HS
  obtain ⟨full, er, E⟩ := st
  have HS := Lib.hid (show D.flush = if er ≠ 0 then (er, E) else (0, E.flush_) from HS.out)
  go_enter Tryz.func19, Tryz.ntmps19
  go_wp2_with fail
  refine HST.out.mono ?_
  rintro e w1 ⟨rfl, hT⟩
  have HT := Lib.hid hT
  clear hT
  by_cases h0 : er = 0
  · subst h0
    have HS2 := Lib.hid (show D.flush = (0, E.flush_) by rw [HS.out]; simp)
    obtain ⟨G1, hM1, ho1, hp1, hs1⟩ := HT.out
    have HM1 := Lib.hid hM1
    have HO1 := Lib.hid ho1
    have HP1 := Lib.hid hp1
    have hc := hM1.blk.cell
    have hf := hM1.blk.frozen
    have hl := hM1.blk.lt
    unfold diskCells at hc
    clear hM1 ho1 hp1 hs1
    go_wp2_with fail
    go_ret
    rw [HS2.out]
    refine ⟨rfl, DiskTo.next HO1.out HP1.out ?_⟩
    refine ⟨{ G1 with sb := some G1.nb, lv := .slice none 0 0, lb := [] }, ⟨?_, ?_⟩, ?_, fun b hb => ?_, rfl⟩
    · have := (HM1.out.blk.set_ 1 (.map (some G1.nb))).set_ 2 (.slice none 0 0)
      unfold diskCells at this ⊢
      simpa [PDisk.flush_] using this
    · refine HM1.out.parts.flushed.off (k := [p]) (((Off.refl [p] w1).setCell (.inr (by simp)) _).setCell (.inr (by simp)) _) (fun b hb h => ?_)
      simp at h; subst h
      exact HM1.out.parts.flushed.far HM1.out.blk (by decide) hb
    · exact (((Off.refl (p :: G1.parts) w1).setCell (.inr (by simp)) _).setCell (.inr (by simp)) _)
    · left
      rcases List.mem_cons.1 hb with rfl | hb
      · exact List.mem_cons_self ..
      · rcases mem_rest.1 hb with h | h | h | h | h | h | h
        · simp at h; subst h; exact List.mem_cons_self ..
        · exact List.mem_cons_of_mem _ (mem_rest.2 (.inr (.inl h)))
        · simp at h
        · exact List.mem_cons_of_mem _ (mem_rest.2 (.inr (.inr (.inr (.inl h)))))
        · simp [Value.ownBlock] at h
        · exact List.mem_cons_of_mem _ (mem_rest.2 (.inr (.inr (.inr (.inr (.inr (.inl h)))))))
        · exact List.mem_cons_of_mem _ (mem_rest.2 (.inr (.inr (.inr (.inr (.inr (.inr h)))))))
  · have HS2 := Lib.hid (show D.flush = (er, E) by rw [HS.out, if_pos h0])
    have hne : (er == 0) = false := beq_eq_false_iff_ne.2 h0
    clear h0
    go_wp2_with fail
    go_ret
    rw [HS2.out]
    exact ⟨rfl, HT.out⟩
end Go.Proofs.YtgcfkljooabjjaaGreatDoor

/- What every call keeps of a disk in plain words: its names lead to its inodes; it is not great. Conditions: none beyond what each lemma states. -/
namespace Go.Proofs.YtgcfkljooabjjaaGreatDoor

def NOk (n : Nat) (l : NameL) : Prop := ∀ x, lookN l x ≤ n ∧ (hasN l x = true → 1 ≤ lookN l x ∧ x.size ≤ 400)
/-- no reason holds -/
theorem firstE_zero : ∀ {l : List (Bool × Int)}, (∀ x ∈ l, x.2 ≠ 0) → firstE l = 0 → ∀ x ∈ l, x.1 = false
  | [], _, _, x, hx => by cases hx
  | y :: l, hz, h, x, hx => by
    unfold firstE at h
    split at h
    · exact absurd h (hz y (List.mem_cons_self ..))
    · rename_i hy
      rcases List.mem_cons.1 hx with rfl | hx
      · simpa using hy
      · exact firstE_zero (fun z hz' => hz z (List.mem_cons_of_mem _ hz')) h x hx
theorem no_size {p : ByteArray} (h : (PDisk.no p).1 = false) : p.size ≤ 400 := by
  unfold PDisk.no at h
  rw [← str_size]
  exact okPath_size (by simpa using h)
/-- its names lead to its inodes, and behind n calls it is this great at most -/
structure Ok (D : PDisk) (n : Nat) : Prop where
  names : NOk D.inos.length D.names
  safe : NOk D.inos.length D.safe
  later : ∀ l ∈ D.later, NOk D.inos.length l
  llen : D.later.length ≤ n
  inos : D.inos.length ≤ n + 1000
  tlen : D.trace.length ≤ n
  clock : D.clock ≤ n
  fates : D.fates.length ≤ 1000000000000
  nlen : D.names.length ≤ n + 1000
  slen : D.safe.length ≤ n + 1000
  llens : ∀ l ∈ D.later, l.length ≤ n + 1000
theorem Ok.few {D : PDisk} {n : Nat} (h : Ok D n) (hn : n ≤ 10000000) : Few D :=
  ⟨by have := h.llen; omega, by have := h.inos; omega, by have := h.tlen; omega, by have := h.clock; omega, h.fates, by have := h.nlen; omega⟩
theorem Ok.look {D : PDisk} {n : Nat} (h : Ok D n) (hn : n ≤ 10000000) (x : ByteArray) : lookN D.names x ≤ 4611686018427387904 := by
  have := (h.names x).1
  have := h.inos
  omega
theorem NOk.mono {n m : Nat} {l : NameL} (h : NOk n l) (hm : n ≤ m) : NOk m l := fun x => ⟨Nat.le_trans (h x).1 hm, (h x).2⟩
theorem NOk.nil (n : Nat) : NOk n [] := fun x => ⟨Nat.zero_le _, fun h => by simp [hasN] at h⟩
theorem NOk.put {n i : Nat} {l : NameL} {p : ByteArray} (h : NOk n l) (hi : 1 ≤ i) (hin : i ≤ n) (hp : p.size ≤ 400) : NOk n (putN l p i) := fun x => by
  rw [lookN_putN, hasN_putN]
  by_cases e : p = x
  · rw [if_pos e]; exact ⟨hin, fun _ => ⟨hi, e ▸ hp⟩⟩
  · rw [if_neg e]
    refine ⟨(h x).1, fun hh => (h x).2 ?_⟩
    simpa [e] using hh
theorem NOk.del {n : Nat} {l : NameL} {p : ByteArray} (h : NOk n l) : NOk n (delN l p) := fun x => by
  rw [lookN_delN, hasN_delN]
  by_cases e : p = x
  · rw [if_pos e]
    exact ⟨Nat.zero_le _, fun hh => by simp [e] at hh⟩
  · rw [if_neg e]
    refine ⟨(h x).1, fun hh => (h x).2 ?_⟩
    simpa [e] using hh
theorem length_putN_le (l : NameL) (p : ByteArray) (i : Nat) : (putN l p i).length ≤ l.length + 1 := by
  rw [length_putN]; split <;> omega
theorem length_delN_le (l : NameL) (p : ByteArray) : (delN l p).length ≤ l.length := List.length_filter_le _ _
namespace PDisk
variable {D : PDisk} {n : Nat}
theorem ok_mono (h : Ok D n) {m : Nat} (hm : n ≤ m) : Ok D m :=
  ⟨h.names, h.safe, h.later, Nat.le_trans h.llen hm, Nat.le_trans h.inos (by omega), Nat.le_trans h.tlen hm, Nat.le_trans h.clock hm, h.fates, Nat.le_trans h.nlen (by omega), Nat.le_trans h.slen (by omega), fun l hl => Nat.le_trans (h.llens l hl) (by omega)⟩
theorem crash_ok (h : Ok D n) (f : FateP) : Ok (D.crash f) n := by
  have key : ∀ l, (match D.later[(min f.keep (D.later.length : Int)).toNat - 1]? with | some l => if 0 < min f.keep (D.later.length : Int) then l else D.safe | none => D.safe) = l → NOk D.inos.length l ∧ l.length ≤ n + 1000 := by
    intro l hl
    split at hl
    · rename_i y hy
      split at hl
      · subst hl
        exact ⟨h.later _ (List.mem_of_getElem? hy), h.llens _ (List.mem_of_getElem? hy)⟩
      · subst hl; exact ⟨h.safe, h.slen⟩
    · subst hl; exact ⟨h.safe, h.slen⟩
  have hk := key _ rfl
  have e1 : (D.crash f).inos.length = D.inos.length := by simp [crash]
  exact ⟨by rw [e1]; exact hk.1, by rw [e1]; exact hk.1, fun l hl => by simp [crash] at hl, by simp [crash], by rw [e1]; exact h.inos, h.tlen, h.clock, h.fates, hk.2, hk.2, fun l hl => by simp [crash] at hl⟩
theorem step_ok (h : Ok D n) (c p q : ByteArray) : Ok (D.step c p q).2.2 (n + 1) := by
  have hE : Ok { D with clock := D.clock + 1, trace := D.trace ++ [⟨c, p, q⟩] } (n + 1) := by
    have h1 := ok_mono h (Nat.le_succ n)
    exact ⟨h1.names, h1.safe, h1.later, h1.llen, h1.inos, by have := h.tlen; simp; omega, by have := h.clock; show D.clock + 1 ≤ n + 1; omega, h.fates, h1.nlen, h1.slen, h1.llens⟩
  unfold step
  split
  · exact ok_mono h (Nat.le_succ n)
  · dsimp only
    split
    · exact hE
    · split
      · exact crash_ok hE _
      · split
        · exact hE
        · exact hE
theorem change_ok (h : Ok D n) {l : NameL} (hl : NOk D.inos.length l) (hn : l.length ≤ n + 1 + 1000) : Ok (D.change l) (n + 1) := by
  have h1 := ok_mono h (Nat.le_succ n)
  exact ⟨hl, h1.safe, fun x hx => by
      rcases List.mem_append.1 hx with hx | hx
      · exact h1.later x hx
      · simp at hx; subst hx; exact hl, by have := h.llen; simp [change]; omega, h1.inos, h1.tlen, h1.clock, h1.fates, hn, h1.slen, fun x hx => by
      rcases List.mem_append.1 hx with hx | hx
      · exact h1.llens x hx
      · simp at hx; subst hx; exact hn⟩
theorem lay_ok (h : Ok D n) (p : ByteArray) (x : Node) (full : Bool) (l : List (Bool × Int)) (hz : ∀ x ∈ l, x.2 ≠ 0) (hp : no p ∈ l) : Ok (D.lay p x full l).2 (n + 1) := by
  unfold lay
  dsimp only
  split
  · exact ok_mono h (Nat.le_succ n)
  · rename_i he
    have hps : p.size ≤ 400 := no_size (firstE_zero (l := l ++ [(full || decide (1000 ≤ D.names.length), 71)]) (fun y hy => by
      rcases List.mem_append.1 hy with hy | hy
      · exact hz y hy
      · simp at hy; subst hy; exact (by decide : (71 : Int) ≠ 0)) (by simpa using he) _ (List.mem_append_left _ hp))
    have e1 : (D.make x D.clock (decide (x.kind = 1))).inos.length = D.inos.length + 1 := by simp [make]
    have h1 := ok_mono h (Nat.le_succ n)
    have hm : NOk (D.inos.length + 1) (putN D.names p (D.inos.length + 1)) := (h.names.mono (Nat.le_succ _)).put (by omega) (Nat.le_refl _) hps
    have hl := length_putN_le D.names p (D.inos.length + 1)
    have hn := h.nlen
    refine ⟨by show NOk (D.make x D.clock (decide (x.kind = 1))).inos.length _; rw [e1]; exact hm, by show NOk (D.make x D.clock (decide (x.kind = 1))).inos.length _; rw [e1]; exact h.safe.mono (Nat.le_succ _), fun y hy => ?_, by have := h.llen; simp [change, make]; omega, by show (D.make x D.clock (decide (x.kind = 1))).inos.length ≤ _; rw [e1]; have := h.inos; omega, h1.tlen, h1.clock, h1.fates, by show (putN D.names p (D.inos.length + 1)).length ≤ _; omega, h1.slen, fun y hy => ?_⟩
    · show NOk (D.make x D.clock (decide (x.kind = 1))).inos.length y
      rw [e1]
      rcases List.mem_append.1 hy with hy | hy
      · exact (h.later y hy).mono (Nat.le_succ _)
      · simp at hy; subst hy; exact hm
    · rcases List.mem_append.1 hy with hy | hy
      · exact h1.llens y hy
      · simp at hy; subst hy; omega
theorem set_ok (h : Ok D n) (i : Nat) (x : Ino) : Ok { D with inos := D.inos.set i x } n := by
  have e1 : ({ D with inos := D.inos.set i x } : PDisk).inos.length = D.inos.length := by simp
  exact ⟨by rw [e1]; exact h.names, by rw [e1]; exact h.safe, fun l hl => by rw [e1]; exact h.later l hl, h.llen, by rw [e1]; exact h.inos, h.tlen, h.clock, h.fates, h.nlen, h.slen, h.llens⟩
theorem write__ok (h : Ok D n) (full : Bool) (p data : ByteArray) (mode : Int) : Ok (D.write_ full p data mode).2 (n + 1) := by
  unfold write_
  cases D.at_ p with
  | none => exact lay_ok h _ _ _ _ (by intro x hx; simp only [List.mem_cons, List.not_mem_nil, or_false] at hx; rcases hx with rfl | rfl | rfl | rfl <;> simp [no, parentE]) (by simp)
  | some o =>
    dsimp only
    split
    · exact ok_mono h (Nat.le_succ n)
    · exact ok_mono (set_ok h _ _) (Nat.le_succ n)
theorem sync__ok (h : Ok D n) (p : ByteArray) : Ok (D.sync_ p).2 (n + 1) := by
  unfold sync_
  dsimp only
  split
  · exact ok_mono h (Nat.le_succ n)
  · dsimp only
    split
    · exact ok_mono h (Nat.le_succ n)
    · exact ok_mono (set_ok h _ _) (Nat.le_succ n)
theorem at_has {p : ByteArray} (h : (D.at_ p).isNone = false) : lookN D.names p ≠ 0 := by
  intro e
  unfold at_ inode at h
  rw [e] at h
  simp at h
theorem replace__ok (h : Ok D n) (p q : ByteArray) : Ok (D.replace_ p q).2 (n + 1) := by
  unfold replace_
  dsimp only
  split
  · exact ok_mono h (Nat.le_succ n)
  · rename_i he
    have hg : (D.at_ p).isNone = false := by
      cases hh : (D.at_ p).isNone
      · rfl
      · exfalso
        apply he
        simp only [firstE, gone, hh, if_true]
        split
        · simp [no]
        · split
          · simp [no]
          · split <;> simp
    have h0 := at_has hg
    have hq : q.size ≤ 400 := no_size (firstE_zero (l := [no p, no q, (decide (p = q), 2), D.gone p, (D.dir p || D.dir q, 73), D.parentE q]) (fun y hy => by simp only [List.mem_cons, List.not_mem_nil, or_false] at hy; rcases hy with rfl | rfl | rfl | rfl | rfl | rfl <;> simp [no, gone, parentE]) (by simpa using he) _ (List.mem_cons_of_mem _ (List.mem_cons_self ..)))
    refine change_ok h ((h.names.put (by omega) (h.names p).1 hq).del) ?_
    have h1 := length_delN_le (putN D.names q (lookN D.names p)) p
    have h2 := length_putN_le D.names q (lookN D.names p)
    have h3 := h.nlen
    omega
theorem flush__ok (h : Ok D n) : Ok D.flush_ n :=
  ⟨h.names, h.names, fun l hl => by simp [flush_] at hl, by simp [flush_], h.inos, h.tlen, h.clock, h.fates, h.nlen, h.nlen, fun l hl => by simp [flush_] at hl⟩
theorem boot_ok (h : Ok D n) (fs : List FateP) (hf : fs.length ≤ 1000000000000) : Ok (D.boot fs) n :=
  ⟨h.names, h.safe, h.later, h.llen, h.inos, by simp [boot], h.clock, hf, h.nlen, h.slen, h.llens⟩
theorem call_ok (h : Ok D n) (c p q : ByteArray) (k : PDisk → Bool → Int × PDisk) (hk : ∀ E full, Ok E (n + 1) → Ok (k E full).2 (n + 2)) : Ok (D.call c p q k).2 (n + 2) := by
  unfold call
  have hs := step_ok h c p q
  generalize D.step c p q = s at hs
  obtain ⟨full, e, E⟩ := s
  dsimp only at hs ⊢
  split
  · exact ok_mono hs (Nat.le_succ _)
  · exact hk E full hs
theorem write_ok (h : Ok D n) (p data : ByteArray) (mode : Int) : Ok (D.write p data mode).2 (n + 2) := call_ok h _ _ _ _ fun _ _ h => write__ok h _ _ _ _
theorem sync_ok (h : Ok D n) (p : ByteArray) : Ok (D.sync p).2 (n + 2) := call_ok h _ _ _ _ fun _ _ h => sync__ok h _
theorem replace_ok (h : Ok D n) (p q : ByteArray) : Ok (D.replace p q).2 (n + 2) := call_ok h _ _ _ _ fun _ _ h => replace__ok h _ _
theorem flush_ok (h : Ok D n) : Ok D.flush.2 (n + 2) := call_ok h _ _ _ _ fun _ _ h => ok_mono (flush__ok h) (Nat.le_succ _)
theorem get_ok (h : Ok D n) (p : ByteArray) : Ok (D.get p).2 (n + 1) := by
  unfold get
  have hs := step_ok h ⟨#[71, 101, 116]⟩ p ⟨#[]⟩
  generalize D.step ⟨#[71, 101, 116]⟩ p ⟨#[]⟩ = s at hs
  obtain ⟨full, e, E⟩ := s
  dsimp only at hs ⊢
  split <;> exact hs
end PDisk
end Go.Proofs.YtgcfkljooabjjaaGreatDoor

/- A disk at a step of a run: it lies in memory, it is in order, the tables lie behind whatever it does. Conditions: none beyond what each lemma states. -/
namespace Go.Proofs.YtgcfkljooabjjaaGreatDoor
open Go.RowKit Go.Op Go.Maps

/-- whatever a disk at p with parts L does, the tables lie -/
def TabsX (w : World) (p : Nat) (L : List Nat) : Prop := ∀ W, Off (p :: L) w W → Tabs W
structure DS (w : World) (p : Nat) (G : Geo) (D : PDisk) (n : Nat) : Prop where
  m : DiskM w p G D
  sb : G.sb.isSome = true
  ok : Ok D n
  tabs : TabsX w p G.parts
theorem TabsX.tabs {w : World} {p : Nat} {L : List Nat} (h : TabsX w p L) : Tabs w := h w (Off.refl _ _)
theorem TabsX.off {w W : World} {p : Nat} {L : List Nat} (h : TabsX w p L) (ho : Off [] w W) : Tabs W := h W (ho.mono (fun _ _ h => by simp at h))
theorem TabsX.next {w w' : World} {p : Nat} {L L' : List Nat} (h : TabsX w p L) (ho : Off (p :: L) w w') (hp : ∀ b ∈ L', b ∈ L ∨ w.heap.size ≤ b) : TabsX w' p L' := fun W hW => by
  refine h W (ho.trans hW (fun x hx hm => ?_))
  rcases List.mem_cons.1 hm with rfl | hm
  · exact List.mem_cons_self ..
  · rcases hp x hm with h | h
    · exact List.mem_cons_of_mem _ h
    · omega
theorem TabsX.of {w0 w : World} {p : Nat} {L : List Nat} (h : Tabs w0) (ho : Off [] w0 w) (hp : w0.heap.size ≤ p) (hL : ∀ b ∈ L, w0.heap.size ≤ b) : TabsX w p L := fun W hW =>
  h.off (ho.trans hW (fun x hx hm => by
    rcases List.mem_cons.1 hm with rfl | hm
    · omega
    · have := hL x hm; omega))
theorem DS.off {w w' : World} {p n : Nat} {G : Geo} {D : PDisk} (h : DS w p G D n) (ho : Off [] w w') : DS w' p G D n :=
  ⟨h.m.off ho (by simp) (by simp), h.sb, h.ok, h.tabs.next (ho.mono (fun _ _ h => by simp at h)) (fun _ hb => .inl hb)⟩
/-- from a disk to a disk -/
def DSTo (w : World) (p : Nat) (L : List Nat) (w' : World) (D : PDisk) (n : Nat) : Prop := ∃ G, DS w' p G D n ∧ Off (p :: L) w w' ∧ ∀ b ∈ G.parts, b ∈ L ∨ w.heap.size ≤ b
theorem DS.to {w w1 w' : World} {p n n' : Nat} {G : Geo} {D D' : PDisk} (h : DS w p G D n) (ho : Off [] w w1) (k : DiskTo w1 p G.parts w' D') (hk : Ok D' n') : DSTo w p G.parts w' D' n' := by
  obtain ⟨G', h1, h2, h3, h4⟩ := k
  have ho2 : Off (p :: G.parts) w w' := (ho.mono (fun _ _ h => by simp at h)).trans h2 (fun _ _ h => h)
  have hp : ∀ b ∈ G'.parts, b ∈ G.parts ∨ w.heap.size ≤ b := fun b hb => by
    rcases h3 b hb with h | h
    · exact .inl h
    · exact .inr (Nat.le_trans ho.size h)
  exact ⟨G', ⟨h1, h4, hk, h.tabs.next ho2 hp⟩, ho2, hp⟩
theorem DSTo.next {w w1 w2 : World} {p n n2 : Nat} {L : List Nat} {D1 D2 : PDisk} (h : DSTo w p L w1 D1 n) (k : ∀ G1, DS w1 p G1 D1 n → DSTo w1 p G1.parts w2 D2 n2) : DSTo w p L w2 D2 n2 := by
  obtain ⟨G1, h1, h2, h3⟩ := h
  obtain ⟨G2, h4, h5, h6⟩ := k G1 h1
  refine ⟨G2, h4, h2.trans h5 (fun x hx hm => ?_), fun b hb => ?_⟩
  · rcases List.mem_cons.1 hm with rfl | hm
    · exact List.mem_cons_self ..
    · rcases h3 x hm with h | h
      · exact List.mem_cons_of_mem _ h
      · omega
  · rcases h6 b hb with h | h
    · exact h3 b h
    · exact .inr (Nat.le_trans h2.size h)
theorem DSTo.step {w w1 w2 : World} {p n2 : Nat} {L : List Nat} {G1 : Geo} {D2 : PDisk} (ho : Off (p :: L) w w1) (hp : ∀ b ∈ G1.parts, b ∈ L ∨ w.heap.size ≤ b) (k : DSTo w1 p G1.parts w2 D2 n2) : DSTo w p L w2 D2 n2 := by
  obtain ⟨G2, h4, h5, h6⟩ := k
  refine ⟨G2, h4, ho.trans h5 (fun x hx hm => ?_), fun b hb => ?_⟩
  · rcases List.mem_cons.1 hm with rfl | hm
    · exact List.mem_cons_self ..
    · rcases hp x hm with h | h
      · exact List.mem_cons_of_mem _ h
      · omega
  · rcases h6 b hb with h | h
    · exact hp b h
    · exact .inr (Nat.le_trans ho.size h)
theorem DSTo.off {w w1 w2 : World} {p n : Nat} {L : List Nat} {D : PDisk} (h : DSTo w p L w1 D n) (ho : Off [] w1 w2) : DSTo w p L w2 D n :=
  h.next fun G1 h1 => ⟨G1, h1.off ho, ho.mono (fun _ _ h => by simp at h), fun _ hb => .inl hb⟩
theorem DS.refl {w : World} {p n : Nat} {G : Geo} {D : PDisk} (h : DS w p G D n) : DSTo w p G.parts w D n := ⟨G, h, Off.refl _ _, fun _ hb => .inl hb⟩
theorem DS.same {w w' : World} {p n : Nat} {G : Geo} {D : PDisk} (h : DS w p G D n) (ho : Off [] w w') : DSTo w p G.parts w' D n := h.refl.off ho
theorem DSTo.le {w w' : World} {p n m : Nat} {L : List Nat} {D : PDisk} (h : DSTo w p L w' D n) (hm : n ≤ m) : DSTo w p L w' D m := by
  obtain ⟨G, h1, h2, h3⟩ := h
  exact ⟨G, ⟨h1.m, h1.sb, PDisk.ok_mono h1.ok hm, h1.tabs⟩, h2, h3⟩
theorem DSTo.ex {w w' : World} {p n : Nat} {L : List Nat} {D : PDisk} (h : DSTo w p L w' D n) : ∃ G, DS w' p G D n := ⟨_, h.choose_spec.1⟩
/-- one path asked for -/
theorem dstep_one (p n : Nat) (G : Geo) (D : PDisk) (call path : ByteArray) (w : World) (h : DS w p G D n) (hn : n ≤ 1000000) :
    Calls Tryz.prog 47 #[.pointer (some ⟨p, 0, none⟩), .string call, .slice (some ⟨w.heap.size, 0, none⟩) 1 1] (w.alloc (.cells #[.string path] 9)) fun e w' =>
      e = .returned (.tuple #[.bool (D.step call path ⟨#[]⟩).1, .int .i64 (D.step call path ⟨#[]⟩).2.1]) ∧ DSTo w p G.parts w' (D.step call path ⟨#[]⟩).2.2 (n + 1) := by
  have hlt := h.m.blk.lt
  refine (dstep_any p 1 (some ⟨w.heap.size, 0, none⟩) G D call [path] (w.alloc (.cells #[.string path] 9)) (h.m.alloc _) h.sb (h.ok.few (by omega)) rfl (by omega) (by intro e; cases e) (fun b hb => ?_) (fun b hb => ?_)).mono ?_
  · cases hb
    exact cell_one_at (Blk.new w _ _)
  · cases hb
    exact ⟨by dsimp only; omega, by simp⟩
  · rintro e w' ⟨he, hT⟩
    exact ⟨he, h.to ((Off.refl [] w).alloc _) hT (PDisk.step_ok h.ok _ _ _)⟩
/-- two paths asked for -/
theorem dstep_two (p n : Nat) (G : Geo) (D : PDisk) (call path q : ByteArray) (w : World) (h : DS w p G D n) (hn : n ≤ 1000000) :
    Calls Tryz.prog 47 #[.pointer (some ⟨p, 0, none⟩), .string call, .slice (some ⟨w.heap.size, 0, none⟩) 2 2] (w.alloc (.cells #[.string path, .string q] 9)) fun e w' =>
      e = .returned (.tuple #[.bool (D.step call path q).1, .int .i64 (D.step call path q).2.1]) ∧ DSTo w p G.parts w' (D.step call path q).2.2 (n + 1) := by
  have hlt := h.m.blk.lt
  refine (dstep_any p 2 (some ⟨w.heap.size, 0, none⟩) G D call [path, q] (w.alloc (.cells #[.string path, .string q] 9)) (h.m.alloc _) h.sb (h.ok.few (by omega)) rfl (by omega) (by intro e; cases e) (fun b hb => ?_) (fun b hb => ?_)).mono ?_
  · cases hb
    exact cell_two_at (Blk.new w _ _)
  · cases hb
    exact ⟨by dsimp only; omega, by simp⟩
  · rintro e w' ⟨he, hT⟩
    exact ⟨he, h.to ((Off.refl [] w).alloc _) hT (PDisk.step_ok h.ok _ _ _)⟩
theorem flush_call (p n : Nat) (G : Geo) (D : PDisk) (w : World) (h : DS w p G D n) (hn : n ≤ 1000000) :
    Calls Tryz.prog 19 #[.pointer (some ⟨p, 0, none⟩)] w fun e w' => e = .returned (.int .i64 D.flush.1) ∧ DSTo w p G.parts w' D.flush.2 (n + 2) :=
  (dflush_any p G D w h.m h.sb (h.ok.few (by omega))).mono fun e w' ⟨he, hT⟩ => ⟨he, h.to (Off.refl _ _) hT (PDisk.flush_ok h.ok)⟩
end Go.Proofs.YtgcfkljooabjjaaGreatDoor

/- disk.New: the walk. Conditions: what the contract states. -/
namespace Go.Proofs.YtgcfkljooabjjaaGreatDoor
open Go.RowKit Go.Op Go.Maps

/-- the names of a list of nodes, numbered -/
def nmOf : List Node → Nat → NameL
  | [], _ => []
  | n :: t, i => (n.path, i + 1) :: nmOf t (i + 1)
theorem nmOf_append : ∀ (a b : List Node) (i : Nat), nmOf (a ++ b) i = nmOf a i ++ nmOf b (i + a.length)
  | [], b, i => by simp [nmOf]
  | n :: a, b, i => by
    rw [List.cons_append, nmOf, nmOf, nmOf_append a b (i + 1), List.cons_append, List.length_cons, show i + 1 + a.length = i + (a.length + 1) by omega]
theorem nmOf_has : ∀ (a : List Node) (i : Nat) (p : ByteArray), hasN (nmOf a i) p = true ↔ ∃ n ∈ a, n.path = p
  | [], i, p => by simp [nmOf, hasN]
  | n :: a, i, p => by simp [nmOf, hasN, nmOf_has a (i + 1) p]
theorem nmOf_len : ∀ (a : List Node) (i : Nat), (nmOf a i).length = a.length
  | [], _ => rfl
  | n :: a, i => by simp [nmOf, nmOf_len a (i + 1)]
/-- a disk that holds these nodes, nothing of it safe yet -/
def newD' (t : List Node) : PDisk := ⟨nmOf t 0, [], [], t.map fun n => ⟨n, 0, false⟩, false, 0, [], []⟩
/-- a new disk -/
def newD (t : List Node) : PDisk := { newD' t with safe := nmOf t 0 }
theorem newD_step {t : List Node} (hs : Sorted t) {i : Nat} (hi : i < t.length) :
    { ((newD' (t.take i)).make t[i] 0 false) with names := putN (newD' (t.take i)).names t[i].path ((newD' (t.take i)).inos.length + 1) } = newD' (t.take (i + 1)) := by
  have ht : t.take (i + 1) = t.take i ++ [t[i]] := by rw [List.take_add_one, List.getElem?_eq_getElem hi]; rfl
  have hno : hasN (nmOf (t.take i) 0) t[i].path = false := by
    cases hh : hasN (nmOf (t.take i) 0) t[i].path
    · rfl
    · obtain ⟨n, hn, e⟩ := (nmOf_has _ _ _).1 hh
      obtain ⟨j, hj, rfl⟩ := List.getElem_of_mem hn
      have hji : j < i := by rw [List.length_take] at hj; omega
      have h1 := List.pairwise_iff_getElem.1 hs j i (by omega) hi hji
      rw [List.getElem_take] at e
      have h2 : t[j].p = t[i].p := by show str _ = str _; rw [e]
      rw [h2, order_self] at h1
      omega
  unfold newD' PDisk.make
  dsimp only
  rw [ht, nmOf_append, List.map_append]
  unfold putN
  rw [if_neg (by rw [hno]; decide)]
  have hl : (t.take i).length = i := by rw [List.length_take]; omega
  simp [nmOf]
theorem newD_zero {w : World} {gd nb ib : Nat} (hB : Blk w gd 99 #[.map (some nb), .map none, .slice none 0 0, .map (some ib), .int .i64 1, .bool false, .int .i64 0, .slice none 0 0, .slice none 0 0, .slice none 0 0])
    (hN : w.ownsMap Tryz.prog 9 (plainElem Tryz.prog 3) nb 0 (.map [] : DataW Unit)) (hI : w.ownsMap Tryz.prog 3 ptrElem ib 0 (.map [] : DataW Unit)) (hne : ib ≠ nb) :
    DiskM w gd ⟨nb, none, ib, .slice none 0 0, .slice none 0 0, .slice none 0 0, [], [], []⟩ (newD' []) where
  blk := hB
  parts := {
    names := ⟨List.Pairwise.nil, _, hN, rfl, fun p => ⟨rfl, rfl⟩⟩
    safe := rfl
    later := World.ownsRow_nil w 0 _ 1
    lbl := rfl
    laters := fun i b l h1 _ => by simp at h1
    ino := ⟨_, hI, rfl, fun k q h => by simp at h, fun i _ => rfl⟩
    qsl := rfl
    inos := fun i q n h1 _ => by simp at h1
    nodup := List.nodup_nil
    trace := World.ownsRow_nil w 0 _ 3
    fates := ⟨none, 0, rfl, Nat.le_refl _, fun h => absurd rfl h⟩
    fbl := fun g hg => by cases hg
    apart := ⟨hne, by simp, by simp⟩ }
/-- in the midst of the names -/
def NewMid (w : World) (gd nb : Nat) (D : PDisk) (wr : World) : Prop :=
  ∃ G, DiskM wr gd G D ∧ G.nb = nb ∧ nb ∉ G.rest ∧ G.sb = none ∧ (∀ b ∈ G.parts, w.heap.size ≤ b) ∧ Off [] w wr
theorem NewMid.off {w wr wr' : World} {gd nb : Nat} {D : PDisk} (h : NewMid w gd nb D wr) (ho : Off [] wr wr') : NewMid w gd nb D wr' := by
  obtain ⟨G, h1, h2, h3, h4, h5, h6⟩ := h
  exact ⟨G, h1.off ho (by simp) (by simp), h2, h3, h4, h5, h6.trans_nil ho⟩
theorem NewMid.turned {w wr wU : World} {gd nb : Nat} {D D1 : PDisk} {G : Geo} {e : Ending} (h1 : DiskM wr gd G D) (hnb : G.nb = nb) (h4 : G.sb = none) (h5 : ∀ b ∈ G.parts, w.heap.size ≤ b) (h6 : Off [] w wr) (hgd : w.heap.size ≤ gd) (ht : TurnP gd nb G D1 wr e wU) : NewMid w gd nb D1 wU := by
  obtain ⟨-, G', a1, a2, a3, a4, a5, a6⟩ := ht
  refine ⟨G', a3, a1, a4, a2.trans h4, fun b hb => ?_, h6.trans a5 (fun x hx hm => ?_)⟩
  · rcases List.mem_cons.1 hb with rfl | hb
    · rw [a1, ← hnb]; exact h5 _ (List.mem_cons_self ..)
    · rcases a6 b hb with h | h
      · exact h5 b (List.mem_cons_of_mem _ h)
      · exact Nat.le_trans h6.size h
  · exfalso
    rcases List.mem_cons.1 hm with rfl | hm
    · omega
    · rcases List.mem_cons.1 hm with rfl | hm
      · have := h5 G.nb (List.mem_cons_self ..); omega
      · have := h5 x (List.mem_cons_of_mem _ hm); omega
set_option maxRecDepth 100000 in
set_option maxHeartbeats 8000000 in
theorem dnew_ok (fp : Option Addr) (t : List Node) (n c : Nat) (w : World) (hR : Row w fp t) (hn : t.length = n) (hc : n ≤ c) (hok : okTree t = true) (hF : Fits t) (hT : Tabs w) :
    Calls Tryz.prog 14 #[.slice fp n c] w fun e w' => ∃ gd G, e = .returned (.tuple #[.pointer (some ⟨gd, 0, none⟩), .int .i64 0]) ∧ DiskM w' gd G (newD t) ∧ w.heap.size ≤ gd ∧ (∀ b ∈ G.parts, w.heap.size ≤ b) ∧ G.sb.isSome = true ∧ Off [] w w' := by
  have hbig : n ≤ 1000 := by rw [← hn]; exact okTree_len hok
  have HCK := Lib.hid (check_any fp t n c w hR hn hc (by unfold maxLen; omega) hF hT)
  have hck : chkV t = 0 := by unfold chkV; rw [hok]; rfl
  rw [hck] at HCK
  have HR := Lib.hid hR
  have HN := Lib.hid hn
  have HS := Lib.hid (okTree_sorted hok)
  have HSM := Lib.hid (fun (x : Node) (hx : x ∈ t) => okTree_small hok hx)
  clear hR hn hok hF hT hck
  go_enter Tryz.func14, Tryz.ntmps14
  go_wp2_with fail
  refine HCK.out.mono ?_
  rintro e w1 ⟨rfl, ho1⟩
  have HO1 := Lib.hid ho1
  clear HCK ho1
  go_wp2_with fail
  rw [run_makeMap]
  simp only [Result.andThen]
  rw [Oper.upon_value]
  go_wp2_with fail
  rw [run_makeMap]
  simp only [Result.andThen]
  rw [Oper.upon_value]
  go_upto_region 4 with fail
  obtain ⟨gd, hgd⟩ : ∃ gd, w1.heap.size + 1 + 1 = gd := ⟨_, rfl⟩
  obtain ⟨nb, hnb⟩ : ∃ nb, w1.heap.size = nb := ⟨_, rfl⟩
  have hm0 : NewMid w gd nb (newD' []) (((w1.alloc (Obj.map #[] 0)).alloc (Obj.map #[] 0)).alloc (.cells #[.map (some w1.heap.size), .map none, .slice none 0 0, .map (some (w1.heap.size + 1)), .int .i64 1, .bool false, .int .i64 0, .slice none 0 0, .slice none 0 0, .slice none 0 0] 99)) := by
    have hsz := HO1.out.size
    refine ⟨⟨w1.heap.size, none, w1.heap.size + 1, .slice none 0 0, .slice none 0 0, .slice none 0 0, [], [], []⟩, newD_zero ?_ ?_ ?_ (by omega), hnb, ?_, rfl, ?_, (((HO1.out.alloc _).alloc _).alloc _)⟩
    · rw [← hgd]; exact Blk.new2 w1 _ _ _ _
    · exact ownsMap_off (World.ownsMap_made w1 Tryz.prog _ _) ((((Off.refl [] _).alloc _)).alloc _) (by simp)
    · have := ownsMap_off (World.ownsMap_made (w1.alloc (Obj.map #[] 0)) Tryz.prog 3 ptrElem (H := Unit)) ((Off.refl [] _).alloc (.cells #[.map (some w1.heap.size), .map none, .slice none 0 0, .map (some (w1.heap.size + 1)), .int .i64 1, .bool false, .int .i64 0, .slice none 0 0, .slice none 0 0, .slice none 0 0] 99)) (by simp)
      simpa using this
    · rw [← hnb]
      intro h
      simp [Geo.rest, Value.ownBlock] at h
    · intro b hb
      simp [Geo.parts, Geo.rest, Value.ownBlock] at hb
      omega
  have hgn : w.heap.size ≤ gd := by have := HO1.out.size; omega
  refine code_gen (fun W => NewMid w gd nb (newD' []) W) hm0 ?_
  rw [hgd, hnb]
  have HGN := Lib.hid hgn
  clear hm0 hgd hnb hgn
  rintro W0 hm0
  go_wp2_with fail
  go_loopw [16] (fun x wr => ∃ i : Nat, x = .int .i64 i ∧ i ≤ n ∧ NewMid w gd nb (newD' (t.take i)) wr) (fun x _ => n - (intOf x).toNat)
  case atStart => exact ⟨0, rfl, by omega, by rw [List.take_zero]; exact hm0⟩
  case round =>
    clear hm0
    obtain ⟨i, rfl, hi, hmid⟩ := hrel
    have HMID := Lib.hid hmid
    obtain ⟨G, hM, hnb, hnr, hsb, hpl, hof⟩ := hmid
    by_cases hlt : i < n
    · have hil : i < t.length := by rw [HN.out]; exact hlt
      obtain ⟨a, rfl, hna, hab⟩ := (HR.out.off hof).get i hil
      have HSTEP := Lib.hid (newD_step HS.out hil)
      have hps := HSM.out _ (List.getElem_mem hil)
      generalize t[i] = x at *
      obtain ⟨D, hD⟩ : ∃ D, newD' (t.take i) = D := ⟨_, rfl⟩
      have HIL := Lib.hid (show D.inos.length ≤ 1000 from by rw [← hD]; simp [newD']; omega)
      have HNL := Lib.hid (show D.names.length ≤ 1000 from by rw [← hD]; simp [newD', nmOf_len]; omega)
      rw [hD] at hM HSTEP
      have c0 := hna.path
      have c1 := hna.kind
      have c2 := hna.data
      have c3 := hna.mode
      have hilt : (i : Int) < n := by omega
      have HM := Lib.hid hM
      have HX := Lib.hid (show G.nb = nb ∧ nb ∉ G.rest ∧ G.sb = none ∧ (∀ b ∈ G.parts, w.heap.size ≤ b) ∧ Off [] w wr from ⟨hnb, hnr, hsb, hpl, hof⟩)
      have HPS := Lib.hid hps
      clear hM hnb hnr hsb hpl hof hna hil hD hps
      go_upto_region 7 with fail
      refine code_gen (fun W => Blk W wr.heap.size 30 #[.string x.path, .int .i64 x.kind, .string x.data, .int .i64 x.mode] ∧ Off [] wr W) ⟨Blk.new wr _ _, (Off.refl _ _).alloc _⟩ ?_
      rintro W ⟨hbn, hoW⟩
      have HBN := Lib.hid hbn.drew
      have HOW := Lib.hid hoW
      have HMW := Lib.hid ((HM.out.off hoW (by simp) (by simp)).drew)
      have hS : (∀ i, W.drew.cell? ⟨wr.heap.size, i, none⟩ = (#[.string x.path, .int .i64 x.kind, .string x.data, .int .i64 x.mode] : Array Value)[i]?) ∧ W.drew.cell? ⟨gd, 0, none⟩ = some (.map (some nb)) :=
        ⟨hbn.drew.cell, by have := HMW.out.blk.cell 0; rw [show (diskCells G D)[0]? = some (.map (some G.nb)) from rfl, HX.out.1] at this; exact this⟩
      have KEEP := Lib.hid (show ∀ (wA wU : World) (q : Nat), DiskM wA gd { G with qs := G.qs ++ [q] } (D.make x 0 false) → Off [gd, G.ib] W.drew wA → wA.grownBy wU (some G.nb) →
          ((∀ i, wA.cell? ⟨wr.heap.size, i, none⟩ = (#[.string x.path, .int .i64 x.kind, .string x.data, .int .i64 x.mode] : Array Value)[i]?) ∧ wA.cell? ⟨gd, 0, none⟩ = some (.map (some nb))) ∧
          (∀ i, wU.cell? ⟨wr.heap.size, i, none⟩ = (#[.string x.path, .int .i64 x.kind, .string x.data, .int .i64 x.mode] : Array Value)[i]?) ∧ wU.cell? ⟨gd, 0, none⟩ = some (.map (some nb)) from
        fun wA wU q hMA hoA hgU => by
          have hib := HMW.out.parts.ino.isMap
          have hmb := HMW.out.parts.names.isMap
          have h1 := HBN.out.off hoA (fun h => by
            simp at h
            rcases h with h | h
            · exact HBN.out.ne_ HMW.out.blk (by decide) h
            · exact hib.ne HBN.out h.symm)
          have h3 : some wr.heap.size ≠ some G.nb := fun e => hmb.ne HBN.out (by injection e with e; exact e.symm)
          have h4 : some gd ≠ some G.nb := fun e => hmb.ne HMW.out.blk (by injection e with e; exact e.symm)
          have h5 := hMA.blk.grown hgU h4
          refine ⟨⟨h1.cell, ?_⟩, (h1.grown hgU h3).cell, ?_⟩
          · have := hMA.blk.cell 0
            rw [show (diskCells { G with qs := G.qs ++ [q] } (D.make x 0 false))[0]? = some (.map (some G.nb)) from rfl, HX.out.1] at this; exact this
          · have := h5.cell 0
            rw [show (diskCells { G with qs := G.qs ++ [q] } (D.make x 0 false))[0]? = some (.map (some G.nb)) from rfl, HX.out.1] at this; exact this)
      clear c0 c1 c2 c3 hbn hoW hab
      go_region_held3 (fun w' => (∀ i, w'.cell? ⟨wr.heap.size, i, none⟩ = (#[.string x.path, .int .i64 x.kind, .string x.data, .int .i64 x.mode] : Array Value)[i]?) ∧ w'.cell? ⟨gd, 0, none⟩ = some (.map (some nb))) (first | assumption) ((go_at_call 43; refine (dmake_any gd G D x 0 false _ HMW.out (by have := HIL.out; omega)).mono ?_; rintro e wA ⟨rfl, q, hMA, hoA, hq⟩; obtain ⟨wU, hrunU, hNU, hgU⟩ := hMA.parts.names.add (by show D.names.length ≤ _; have := HNL.out; omega) x.path (by have := HPS.out; unfold maxLen; omega) (D.inos.length + 1) (D.inos.length + 1) (by simp) (by have := HIL.out; omega); obtain ⟨hSA, hSU⟩ := KEEP.out wA wU q hMA hoA hgU; rw [show ({ G with qs := G.qs ++ [q] } : Geo).nb = nb from HX.out.1] at hrunU))
      have HEND := Lib.hid (show NewMid w gd nb (newD' (t.take (i + 1))) wU from by
        rw [← HSTEP.out]
        have hMG : DiskM W.drew gd { G with nb := G.nb } D := HMW.out
        have htp := turn_end (path := x.path) (m := G.nb) hMG (by rw [HX.out.1]; exact HX.out.2.1) hMA hoA hq (by rw [show (D.make x 0 false).names = D.names from rfl] at hNU; exact hNU) hgU
        rw [HX.out.1] at htp
        exact NewMid.turned HMW.out HX.out.1 HX.out.2.2.1 HX.out.2.2.2.1 ((HX.out.2.2.2.2.trans_nil HOW.out).drew) HGN.out htp)
      clear hSA hSU hS hMA hoA hq hNU hgU hrunU
      go_wp2_with fail
      exact ⟨⟨i + 1, by congr 1, by omega, HEND.out⟩, by simp only [intOf]; omega⟩
    · obtain rfl : i = n := by omega
      have ht : t.take i = t := List.take_of_length_le (by rw [HN.out]; exact Nat.le_refl _)
      rw [ht] at hM
      have HCL := Lib.hid (mclone_any G.nb (nmOf t 0) wr hM.parts.names)
      have hc0 := hM.blk.cell
      unfold diskCells at hc0
      have HM := Lib.hid hM
      have HX := Lib.hid (show G.nb = nb ∧ nb ∉ G.rest ∧ G.sb = none ∧ (∀ b ∈ G.parts, w.heap.size ≤ b) ∧ Off [] w wr from ⟨hnb, hnr, hsb, hpl, hof⟩)
      clear hM hnb hnr hsb hpl hof ht
      go_wp2_with fail
      refine HCL.out.mono ?_
      rintro e w3 ⟨rfl, hN3, ho3⟩
      have hM3 := HM.out.off ho3 (by simp) (by simp)
      have HM3 := Lib.hid hM3
      have HN3 := Lib.hid hN3
      have HO3 := Lib.hid ho3
      have hc3 := hM3.blk.cell
      have hf3 := hM3.blk.frozen
      have hl3 := hM3.blk.lt
      unfold diskCells at hc3
      clear hc0 hM3 hN3 ho3
      go_wp2_with fail
      go_ret2
      have hwg : wr.heap.size ∉ G.parts := fun h => Nat.lt_irrefl _ (HM.out.parts.lt h)
      refine ⟨gd, { G with sb := some wr.heap.size }, rfl, ⟨?_, ?_⟩, HGN.out, ?_, rfl, ?_⟩
      · have := HM3.out.blk.set_ 1 (.map (some wr.heap.size))
        unfold diskCells at this ⊢
        simpa [newD] using this
      · have hS : Off [gd] w3 (w3.setCell ⟨gd, 1, none⟩ (.map (some wr.heap.size))) := (Off.refl [gd] w3).setCell (.inr (by simp)) _
        have hPP := HM3.out.parts.off (k := [gd]) hS (fun b hb h => by simp at h; subst h; exact HM3.out.far hb)
        exact {
          names := hPP.names
          safe := HN3.out.off hS (by have := HM.out.blk.lt; simp; omega)
          later := hPP.later
          lbl := hPP.lbl
          laters := hPP.laters
          ino := hPP.ino
          qsl := hPP.qsl
          inos := hPP.inos
          nodup := hPP.nodup
          trace := hPP.trace
          fates := hPP.fates
          fbl := hPP.fbl
          apart := ⟨hPP.apart.1, fun e => hwg (by injection e with e; rw [e]; exact List.mem_cons_of_mem _ (mem_rest.2 (.inr (.inl rfl)))), hPP.apart.2.2⟩ }
      · intro b hb
        rcases List.mem_cons.1 hb with rfl | hb
        · exact HX.out.2.2.2.1 _ (List.mem_cons_self ..)
        · rcases mem_rest.1 hb with h | h
          · simp at h; subst h; exact HX.out.2.2.2.2.size
          · exact HX.out.2.2.2.1 b (List.mem_cons_of_mem _ (mem_rest.2 (.inr h)))
      · exact (HX.out.2.2.2.2.trans_nil HO3.out).setCell (.inl HGN.out) _
end Go.Proofs.YtgcfkljooabjjaaGreatDoor

/- hawserref01.rune_ and Valid: the walks; Valid is the library's ValidString. Conditions: what each contract states. -/
namespace Go.Proofs.YtgcfkljooabjjaaGreatDoor
open Go.RowKit Go.Op

/-- how many bytes the rune has that these bytes begin; 0: none -/
def runeW (n b0 b1 b2 b3 : Nat) : Nat := if (Lib.decodeN n b0 b1 b2 b3).1 = 65533 ∧ (Lib.decodeN n b0 b1 b2 b3).2 = 1 then 0 else (Lib.decodeN n b0 b1 b2 b3).2
theorem runeW_asc {n b0 b1 b2 b3 : Nat} (h : b0 < 128) : runeW n b0 b1 b2 b3 = 1 := by
  unfold runeW Lib.decodeN
  rw [if_pos h]
  dsimp only
  rw [if_neg (by omega)]
theorem runeW_bad {n b0 b1 b2 b3 : Nat} (h : 128 ≤ b0) (h2 : b0 < 194 ∨ 244 < b0) (hb : b0 < 256) : runeW n b0 b1 b2 b3 = 0 := by
  unfold runeW Lib.decodeN
  repeat' split
  all_goals first | rfl | (exfalso; omega) | (dsimp only at *; omega)
theorem runeW_two {n b0 b1 b2 b3 : Nat} (h : 194 ≤ b0) (h2 : b0 ≤ 223) (hb1 : b1 < 256) : runeW n b0 b1 b2 b3 = if 2 ≤ n ∧ 128 ≤ b1 ∧ b1 ≤ 191 then 2 else 0 := by
  unfold runeW Lib.decodeN
  repeat' split
  all_goals first | rfl | (exfalso; omega) | (dsimp only at *; omega)
theorem runeW_three {n b0 b1 b2 b3 : Nat} (h : 224 ≤ b0) (h2 : b0 ≤ 239) (hb1 : b1 < 256) (hb2 : b2 < 256) : runeW n b0 b1 b2 b3 =
    if 3 ≤ n ∧ 128 ≤ b1 ∧ b1 ≤ 191 ∧ 128 ≤ b2 ∧ b2 ≤ 191 ∧ 2048 ≤ (b0 - 224) * 4096 + (b1 - 128) * 64 + (b2 - 128) ∧ ¬ (55296 ≤ (b0 - 224) * 4096 + (b1 - 128) * 64 + (b2 - 128) ∧ (b0 - 224) * 4096 + (b1 - 128) * 64 + (b2 - 128) ≤ 57343) then 3 else 0 := by
  unfold runeW Lib.decodeN
  repeat' split
  all_goals first | rfl | (exfalso; omega) | (dsimp only at *; omega)
theorem runeW_four {n b0 b1 b2 b3 : Nat} (h : 240 ≤ b0) (h2 : b0 ≤ 244) (hb1 : b1 < 256) (hb2 : b2 < 256) (hb3 : b3 < 256) : runeW n b0 b1 b2 b3 =
    if 4 ≤ n ∧ 128 ≤ b1 ∧ b1 ≤ 191 ∧ 128 ≤ b2 ∧ b2 ≤ 191 ∧ 128 ≤ b3 ∧ b3 ≤ 191 ∧ 65536 ≤ (b0 - 240) * 262144 + (b1 - 128) * 4096 + (b2 - 128) * 64 + (b3 - 128) ∧ (b0 - 240) * 262144 + (b1 - 128) * 4096 + (b2 - 128) * 64 + (b3 - 128) ≤ 1114111 then 4 else 0 := by
  unfold runeW Lib.decodeN
  repeat' split
  all_goals first | rfl | (exfalso; omega) | (dsimp only at *; omega)
def byteN (s : ByteArray) (i : Nat) : Nat := ((str s).getD i 0).toNat
theorem byteN_lt (s : ByteArray) (i : Nat) : byteN s i < 256 := UInt8.toNat_lt _
theorem byteN_get (s : ByteArray) (i : Nat) (h : i < s.size) : (s[i]'h).toNat = byteN s i := by
  unfold byteN
  have : (str s)[i]? = some (s[i]'h) := Lib.data_getElem? s i h
  simp [List.getD, this]
def runeAt (s : ByteArray) (i : Nat) : Nat := runeW (s.size - i) (byteN s i) (byteN s (i + 1)) (byteN s (i + 2)) (byteN s (i + 3))

set_option maxRecDepth 100000 in
set_option maxHeartbeats 4000000 in
theorem rune_two (s : ByteArray) (i : Nat) (w : World) (hi : i < s.size) (hs : s.size ≤ 1048576) (h1 : 194 ≤ byteN s i) (h2 : byteN s i ≤ 223) :
    Calls Tryz.prog 156 #[.string s, .int .i64 i] w fun e w' => e = .returned (.int .i64 (runeAt s i)) ∧ w = w' := by
  have hv := Lib.hid (runeW_two (n := s.size - i) (b2 := byteN s (i + 2)) (b3 := byteN s (i + 3)) h1 h2 (byteN_lt s (i + 1)))
  have hb0 := byteN_get s i hi
  by_cases hlen : i + 2 ≤ s.size
  · have hb1 := byteN_get s (i + 1) (by omega)
    have hl1 := byteN_lt s (i + 1)
    have hra : runeAt s i = runeW (s.size - i) (byteN s i) (byteN s (i + 1)) (byteN s (i + 2)) (byteN s (i + 3)) := rfl
    generalize byteN s i = b0 at *
    generalize byteN s (i + 1) = b1 at *
    have HRA := Lib.hid hra
    clear hra
    have hq : decide ((b0 : Int) ≤ 223) = true := decide_eq_true (by omega)
    go_enter Tryz.func156, Tryz.ntmps156
    go_wp2_with fail
    go_loopw [9, 8] (fun x y wr => wr = w ∧ ((x = .int .i64 1 ∧ y = .int .i64 ((b0 : Int) - 192) ∧ True) ∨ (x = .int .i64 2 ∧ y = .int .i64 (((b0 : Int) - 192) * 64 + (b1 : Int) - 128) ∧ 128 ≤ b1 ∧ b1 ≤ 191))) (fun x _ _ => 2 - (intOf x).toNat)
    case atStart => exact ⟨rfl, .inl ⟨rfl, rfl, trivial⟩⟩
    case round =>
      obtain ⟨rfl, hrel⟩ := hrel
      rcases hrel with ⟨rfl, rfl, -⟩ | ⟨rfl, rfl, g1, k1⟩
      · by_cases ha : 128 ≤ b1
        · by_cases hb : b1 ≤ 191
          · go_wp2_with fail
            exact ⟨⟨by trivial, .inr (⟨by first | rfl | trivial, by first | rfl | trivial, ha, hb⟩)⟩, by simp [intOf]⟩
          · go_wp2_with fail
            go_ret
            exact ⟨by rw [HRA.out, hv.out, if_neg (by omega)]; rfl, rfl⟩
        · go_wp2_with fail
          go_ret
          exact ⟨by rw [HRA.out, hv.out, if_neg (by omega)]; rfl, rfl⟩
      · go_wp2_with fail
        go_ret
        exact ⟨by rw [HRA.out, hv.out, if_pos (by omega)]; rfl, rfl⟩
  · have hra : runeAt s i = runeW (s.size - i) (byteN s i) (byteN s (i + 1)) (byteN s (i + 2)) (byteN s (i + 3)) := rfl
    have HRA := Lib.hid hra
    clear hra
    generalize hg : byteN s i = b0 at *
    clear hg
    go_enter Tryz.func156, Tryz.ntmps156
    go_wp2_with fail
    go_ret
    exact ⟨by rw [HRA.out, hv.out, if_neg (by omega)]; rfl, rfl⟩

set_option maxRecDepth 100000 in
set_option maxHeartbeats 4000000 in
theorem rune_three (s : ByteArray) (i : Nat) (w : World) (hi : i < s.size) (hs : s.size ≤ 1048576) (h1 : 224 ≤ byteN s i) (h2 : byteN s i ≤ 239) :
    Calls Tryz.prog 156 #[.string s, .int .i64 i] w fun e w' => e = .returned (.int .i64 (runeAt s i)) ∧ w = w' := by
  have hv := Lib.hid (runeW_three (n := s.size - i) (b3 := byteN s (i + 3)) h1 h2 (byteN_lt s (i + 1)) (byteN_lt s (i + 2)))
  have hb0 := byteN_get s i hi
  by_cases hlen : i + 3 ≤ s.size
  · have hb1 := byteN_get s (i + 1) (by omega)
    have hl1 := byteN_lt s (i + 1)
    have hb2 := byteN_get s (i + 2) (by omega)
    have hl2 := byteN_lt s (i + 2)
    have hra : runeAt s i = runeW (s.size - i) (byteN s i) (byteN s (i + 1)) (byteN s (i + 2)) (byteN s (i + 3)) := rfl
    generalize byteN s i = b0 at *
    generalize byteN s (i + 1) = b1 at *
    generalize byteN s (i + 2) = b2 at *
    have HRA := Lib.hid hra
    clear hra
    have hq : decide ((b0 : Int) ≤ 239) = true := decide_eq_true (by omega)
    go_enter Tryz.func156, Tryz.ntmps156
    go_wp2_with fail
    go_loopw [9, 8] (fun x y wr => wr = w ∧ ((x = .int .i64 1 ∧ y = .int .i64 ((b0 : Int) - 224) ∧ True) ∨ (x = .int .i64 2 ∧ y = .int .i64 (((b0 : Int) - 224) * 64 + (b1 : Int) - 128) ∧ 128 ≤ b1 ∧ b1 ≤ 191) ∨ (x = .int .i64 3 ∧ y = .int .i64 ((((b0 : Int) - 224) * 64 + (b1 : Int) - 128) * 64 + (b2 : Int) - 128) ∧ 128 ≤ b1 ∧ b1 ≤ 191 ∧ 128 ≤ b2 ∧ b2 ≤ 191))) (fun x _ _ => 3 - (intOf x).toNat)
    case atStart => exact ⟨rfl, .inl ⟨rfl, rfl, trivial⟩⟩
    case round =>
      obtain ⟨rfl, hrel⟩ := hrel
      rcases hrel with ⟨rfl, rfl, -⟩ | ⟨rfl, rfl, g1, k1⟩ | ⟨rfl, rfl, g1, k1, g2, k2⟩
      · by_cases ha : 128 ≤ b1
        · by_cases hb : b1 ≤ 191
          · go_wp2_with fail
            exact ⟨⟨by trivial, .inr (.inl ⟨by first | rfl | trivial, by first | rfl | trivial, ha, hb⟩)⟩, by simp [intOf]⟩
          · go_wp2_with fail
            go_ret
            exact ⟨by rw [HRA.out, hv.out, if_neg (by omega)]; rfl, rfl⟩
        · go_wp2_with fail
          go_ret
          exact ⟨by rw [HRA.out, hv.out, if_neg (by omega)]; rfl, rfl⟩
      · by_cases ha : 128 ≤ b2
        · by_cases hb : b2 ≤ 191
          · go_wp2_with fail
            exact ⟨⟨by trivial, .inr (.inr (⟨by first | rfl | trivial, by first | rfl | trivial, g1, k1, ha, hb⟩))⟩, by simp [intOf]⟩
          · go_wp2_with fail
            go_ret
            exact ⟨by rw [HRA.out, hv.out, if_neg (by omega)]; rfl, rfl⟩
        · go_wp2_with fail
          go_ret
          exact ⟨by rw [HRA.out, hv.out, if_neg (by omega)]; rfl, rfl⟩
      · obtain ⟨v, hve⟩ : ∃ v : Int, ((((b0 : Int) - 224) * 64 + (b1 : Int) - 128) * 64 + (b2 : Int) - 128) = v := ⟨_, rfl⟩
        have hv0 : 0 ≤ v := by omega
        have HVE := Lib.hid hve
        have hvn : v = (((b0 - 224) * 4096 + (b1 - 128) * 64 + (b2 - 128) : Nat) : Int) := by omega
        have HVN := Lib.hid hvn
        rw [hve]
        clear hve hvn
        have hvm : v < 1114111 := by have := HVN.out; omega
        by_cases c1 : 2048 ≤ v
        · by_cases c2 : 55296 ≤ v
          · by_cases c3 : v ≤ 57343
            · go_wp2_with fail
              go_ret
              exact ⟨by rw [HRA.out, hv.out, if_neg (by have := HVN.out; omega)]; rfl, rfl⟩
            · go_wp2_with fail
              go_ret
              exact ⟨by rw [HRA.out, hv.out, if_pos (by have := HVN.out; omega)]; rfl, rfl⟩
          · go_wp2_with fail
            go_ret
            exact ⟨by rw [HRA.out, hv.out, if_pos (by have := HVN.out; omega)]; rfl, rfl⟩
        · go_wp2_with fail
          go_ret
          exact ⟨by rw [HRA.out, hv.out, if_neg (by have := HVN.out; omega)]; rfl, rfl⟩
  · have hra : runeAt s i = runeW (s.size - i) (byteN s i) (byteN s (i + 1)) (byteN s (i + 2)) (byteN s (i + 3)) := rfl
    have HRA := Lib.hid hra
    clear hra
    generalize hg : byteN s i = b0 at *
    clear hg
    go_enter Tryz.func156, Tryz.ntmps156
    go_wp2_with fail
    go_ret
    exact ⟨by rw [HRA.out, hv.out, if_neg (by omega)]; rfl, rfl⟩

set_option maxRecDepth 100000 in
set_option maxHeartbeats 4000000 in
theorem rune_four (s : ByteArray) (i : Nat) (w : World) (hi : i < s.size) (hs : s.size ≤ 1048576) (h1 : 240 ≤ byteN s i) (h2 : byteN s i ≤ 244) :
    Calls Tryz.prog 156 #[.string s, .int .i64 i] w fun e w' => e = .returned (.int .i64 (runeAt s i)) ∧ w = w' := by
  have hv := Lib.hid (runeW_four (n := s.size - i) h1 h2 (byteN_lt s (i + 1)) (byteN_lt s (i + 2)) (byteN_lt s (i + 3)))
  have hb0 := byteN_get s i hi
  by_cases hlen : i + 4 ≤ s.size
  · have hb1 := byteN_get s (i + 1) (by omega)
    have hl1 := byteN_lt s (i + 1)
    have hb2 := byteN_get s (i + 2) (by omega)
    have hl2 := byteN_lt s (i + 2)
    have hb3 := byteN_get s (i + 3) (by omega)
    have hl3 := byteN_lt s (i + 3)
    have hra : runeAt s i = runeW (s.size - i) (byteN s i) (byteN s (i + 1)) (byteN s (i + 2)) (byteN s (i + 3)) := rfl
    generalize byteN s i = b0 at *
    generalize byteN s (i + 1) = b1 at *
    generalize byteN s (i + 2) = b2 at *
    generalize byteN s (i + 3) = b3 at *
    have HRA := Lib.hid hra
    clear hra
    have hq : decide ((b0 : Int) ≤ 244) = true := decide_eq_true (by omega)
    go_enter Tryz.func156, Tryz.ntmps156
    go_wp2_with fail
    go_loopw [9, 8] (fun x y wr => wr = w ∧ ((x = .int .i64 1 ∧ y = .int .i64 ((b0 : Int) - 240) ∧ True) ∨ (x = .int .i64 2 ∧ y = .int .i64 (((b0 : Int) - 240) * 64 + (b1 : Int) - 128) ∧ 128 ≤ b1 ∧ b1 ≤ 191) ∨ (x = .int .i64 3 ∧ y = .int .i64 ((((b0 : Int) - 240) * 64 + (b1 : Int) - 128) * 64 + (b2 : Int) - 128) ∧ 128 ≤ b1 ∧ b1 ≤ 191 ∧ 128 ≤ b2 ∧ b2 ≤ 191) ∨ (x = .int .i64 4 ∧ y = .int .i64 (((((b0 : Int) - 240) * 64 + (b1 : Int) - 128) * 64 + (b2 : Int) - 128) * 64 + (b3 : Int) - 128) ∧ 128 ≤ b1 ∧ b1 ≤ 191 ∧ 128 ≤ b2 ∧ b2 ≤ 191 ∧ 128 ≤ b3 ∧ b3 ≤ 191))) (fun x _ _ => 4 - (intOf x).toNat)
    case atStart => exact ⟨rfl, .inl ⟨rfl, rfl, trivial⟩⟩
    case round =>
      obtain ⟨rfl, hrel⟩ := hrel
      rcases hrel with ⟨rfl, rfl, -⟩ | ⟨rfl, rfl, g1, k1⟩ | ⟨rfl, rfl, g1, k1, g2, k2⟩ | ⟨rfl, rfl, g1, k1, g2, k2, g3, k3⟩
      · by_cases ha : 128 ≤ b1
        · by_cases hb : b1 ≤ 191
          · go_wp2_with fail
            exact ⟨⟨by trivial, .inr (.inl ⟨by first | rfl | trivial, by first | rfl | trivial, ha, hb⟩)⟩, by simp [intOf]⟩
          · go_wp2_with fail
            go_ret
            exact ⟨by rw [HRA.out, hv.out, if_neg (by omega)]; rfl, rfl⟩
        · go_wp2_with fail
          go_ret
          exact ⟨by rw [HRA.out, hv.out, if_neg (by omega)]; rfl, rfl⟩
      · by_cases ha : 128 ≤ b2
        · by_cases hb : b2 ≤ 191
          · go_wp2_with fail
            exact ⟨⟨by trivial, .inr (.inr (.inl ⟨by first | rfl | trivial, by first | rfl | trivial, g1, k1, ha, hb⟩))⟩, by simp [intOf]⟩
          · go_wp2_with fail
            go_ret
            exact ⟨by rw [HRA.out, hv.out, if_neg (by omega)]; rfl, rfl⟩
        · go_wp2_with fail
          go_ret
          exact ⟨by rw [HRA.out, hv.out, if_neg (by omega)]; rfl, rfl⟩
      · by_cases ha : 128 ≤ b3
        · by_cases hb : b3 ≤ 191
          · go_wp2_with fail
            exact ⟨⟨by trivial, .inr (.inr (.inr (⟨by first | rfl | trivial, by first | rfl | trivial, g1, k1, g2, k2, ha, hb⟩)))⟩, by simp [intOf]⟩
          · go_wp2_with fail
            go_ret
            exact ⟨by rw [HRA.out, hv.out, if_neg (by omega)]; rfl, rfl⟩
        · go_wp2_with fail
          go_ret
          exact ⟨by rw [HRA.out, hv.out, if_neg (by omega)]; rfl, rfl⟩
      · obtain ⟨v, hve⟩ : ∃ v : Int, (((((b0 : Int) - 240) * 64 + (b1 : Int) - 128) * 64 + (b2 : Int) - 128) * 64 + (b3 : Int) - 128) = v := ⟨_, rfl⟩
        have hv0 : 0 ≤ v := by omega
        have HVE := Lib.hid hve
        have hvn : v = (((b0 - 240) * 262144 + (b1 - 128) * 4096 + (b2 - 128) * 64 + (b3 - 128) : Nat) : Int) := by omega
        have HVN := Lib.hid hvn
        rw [hve]
        clear hve hvn
        by_cases c1 : 65536 ≤ v
        · by_cases c2 : v ≤ 1114111
          · go_wp2_with fail
            go_ret
            exact ⟨by rw [HRA.out, hv.out, if_pos (by have := HVN.out; omega)]; rfl, rfl⟩
          · go_wp2_with fail
            go_ret
            exact ⟨by rw [HRA.out, hv.out, if_neg (by have := HVN.out; omega)]; rfl, rfl⟩
        · go_wp2_with fail
          go_ret
          exact ⟨by rw [HRA.out, hv.out, if_neg (by have := HVN.out; omega)]; rfl, rfl⟩
  · have hra : runeAt s i = runeW (s.size - i) (byteN s i) (byteN s (i + 1)) (byteN s (i + 2)) (byteN s (i + 3)) := rfl
    have HRA := Lib.hid hra
    clear hra
    generalize hg : byteN s i = b0 at *
    clear hg
    go_enter Tryz.func156, Tryz.ntmps156
    go_wp2_with fail
    go_ret
    exact ⟨by rw [HRA.out, hv.out, if_neg (by omega)]; rfl, rfl⟩

set_option maxRecDepth 100000 in
set_option maxHeartbeats 4000000 in
theorem rune_any (s : ByteArray) (i : Nat) (w : World) (hi : i < s.size) (hs : s.size ≤ 1048576) :
    Calls Tryz.prog 156 #[.string s, .int .i64 i] w fun e w' => e = .returned (.int .i64 (runeAt s i)) ∧ w = w' := by
  have hbl := byteN_lt s i
  by_cases a1 : byteN s i < 128
  · have hv := Lib.hid (runeW_asc (n := s.size - i) (b1 := byteN s (i + 1)) (b2 := byteN s (i + 2)) (b3 := byteN s (i + 3)) a1)
    have hb0 := byteN_get s i hi
    have HRA := Lib.hid (show runeAt s i = runeW (s.size - i) (byteN s i) (byteN s (i + 1)) (byteN s (i + 2)) (byteN s (i + 3)) from rfl)
    generalize hg : byteN s i = b0 at *
    clear hg
    go_enter Tryz.func156, Tryz.ntmps156
    go_wp2_with fail
    go_ret
    exact ⟨by rw [HRA.out, hv.out]; rfl, rfl⟩
  by_cases a2 : byteN s i < 194 ∨ 244 < byteN s i
  · have hv := Lib.hid (runeW_bad (n := s.size - i) (b1 := byteN s (i + 1)) (b2 := byteN s (i + 2)) (b3 := byteN s (i + 3)) (by omega) a2 hbl)
    have hb0 := byteN_get s i hi
    have HRA := Lib.hid (show runeAt s i = runeW (s.size - i) (byteN s i) (byteN s (i + 1)) (byteN s (i + 2)) (byteN s (i + 3)) from rfl)
    generalize hg : byteN s i = b0 at *
    clear hg
    rcases a2 with a2 | a2
    all_goals (
      go_enter Tryz.func156, Tryz.ntmps156
      go_wp2_with fail
      go_ret
      exact ⟨by rw [HRA.out, hv.out]; rfl, rfl⟩)
  by_cases a3 : byteN s i ≤ 223
  · exact rune_two s i w hi hs (by omega) a3
  by_cases a4 : byteN s i ≤ 239
  · exact rune_three s i w hi hs (by omega) a4
  · exact rune_four s i w hi hs (by omega) (by omega)
theorem runeAt_decode (s : ByteArray) (i : Nat) (_hi : i < s.size) : runeAt s i = if (Lib.decodeL ((str s).drop i)).1 = 65533 ∧ (Lib.decodeL ((str s).drop i)).2 = 1 then 0 else (Lib.decodeL ((str s).drop i)).2 := by
  have : Lib.decodeL ((str s).drop i) = Lib.decodeN (s.size - i) (byteN s i) (byteN s (i + 1)) (byteN s (i + 2)) (byteN s (i + 3)) := by
    rw [show (str s).drop i = s.data.toList.drop i from rfl, Lib.decodeL_drop, Lib.decode_N]
    rfl
  rw [this]
  rfl
set_option maxRecDepth 100000 in
theorem rvalid_any (s : ByteArray) (w : World) (hs : s.size ≤ 1048576) :
    Calls Tryz.prog 137 #[.string s] w fun e w' => e = .returned (.bool (Lib.validD (str s))) ∧ w = w' := by
  go_enter Tryz.func137, Tryz.ntmps137
  go_wp2_with fail
  go_loopw [3] (fun x wr => ∃ i : Nat, x = .int .i64 i ∧ i ≤ s.size ∧ wr = w ∧ Hid (Lib.validD (str s) = Lib.validD ((str s).drop i))) (fun x _ => s.size - (intOf x).toNat)
  case atStart => exact ⟨0, rfl, by omega, rfl, Lib.hid rfl⟩
  case round =>
    obtain ⟨i, rfl, hi, rfl, hv⟩ := hrel
    by_cases hlt : i < s.size
    · have hne : (str s).drop i ≠ [] := by
        intro e
        have := congrArg List.length e
        simp [str_size] at this
        omega
      have hd := runeAt_decode s i hlt
      have hst := Lib.validD_step _ hne
      have hw1 := Lib.decodeL_le ((str s).drop i) hne
      have hw0 := Lib.decodeL_width ((str s).drop i)
      rw [List.length_drop, str_size] at hw1
      by_cases hb : (Lib.decodeL ((str s).drop i)).1 = 65533 ∧ (Lib.decodeL ((str s).drop i)).2 = 1
      · rw [if_pos hb] at hd hst
        have HD := Lib.hid hd
        have HST := Lib.hid hst
        clear hd hst hb hw0 hw1 hne
        go_wp2_with fail
        refine (rune_any s i _ hlt hs).mono ?_
        rintro e w1 ⟨rfl, e1⟩
        subst e1
        rw [HD.out]
        go_wp2_with fail
        go_ret
        exact ⟨by rw [hv.out, HST.out]; rfl, rfl⟩
      · rw [if_neg hb] at hd hst
        rw [List.drop_drop] at hst
        generalize (Lib.decodeL ((str s).drop i)).2 = d at *
        have HD := Lib.hid hd
        have HST := Lib.hid hst
        have hd0 : ((d : Int) == 0) = false := beq_eq_false_iff_ne.2 (by omega)
        clear hd hst hb hne
        go_wp2_with fail
        refine (rune_any s i _ hlt hs).mono ?_
        rintro e w1 ⟨rfl, e1⟩
        subst e1
        rw [HD.out]
        go_wp2_with fail
        refine ⟨⟨i + d, by congr 1, by omega, by trivial, Lib.hid (hv.out.trans HST.out)⟩, ?_⟩
        simp only [intOf]; omega
    · obtain rfl : i = s.size := by omega
      go_wp2_with fail
      go_ret
      have : (str s).drop s.size = [] := List.drop_eq_nil_of_le (by rw [str_size]; exact Nat.le_refl _)
      exact ⟨by rw [hv.out, this]; rfl, rfl⟩
end Go.Proofs.YtgcfkljooabjjaaGreatDoor

/- hawserref01: Name, Parts, Path: the walks. Conditions: no string is longer than 1048576 bytes. -/
namespace Go.Proofs.YtgcfkljooabjjaaGreatDoor
open Go.RowKit Go.Op

set_option maxRecDepth 100000 in
set_option maxHeartbeats 4000000 in
theorem rname_any (s : ByteArray) (w : World) (hs : s.size ≤ 1048576) :
    Calls Tryz.prog 115 #[.string s] w fun e w' => e = .returned (.bool (okName (str s))) ∧ w = w' := by
  have hk := Lib.hid (okName_eq s)
  have hz : s.toList = [] ↔ s.size = 0 := by rw [toList_str, ← str_size]; simp
  by_cases h1 : s.size = 0
  · have h1' := hz.2 h1
    clear hz
    go_enter Tryz.func115, Tryz.ntmps115
    go_wp2_with fail
    go_ret
    exact ⟨by rw [hk.out]; simp [h1'], rfl⟩
  have h1' : ¬ s.toList = [] := fun e => h1 (hz.1 e)
  have HZ := Lib.hid h1'
  clear hz h1'
  by_cases h2 : s.size ≤ 64
  · by_cases h3 : s.toList = [46]
    · have g : (s.toList == [46]) = true := by simp [h3]
      go_enter Tryz.func115, Tryz.ntmps115
      go_wp2_with fail
      go_ret
      exact ⟨by rw [hk.out]; simp [h3], rfl⟩
    have g3 : (s.toList == [46]) = false := by simpa using h3
    by_cases h4 : s.toList = [46, 46]
    · have g : (s.toList == [46, 46]) = true := by simp [h4]
      go_enter Tryz.func115, Tryz.ntmps115
      go_wp2_with fail
      go_ret
      exact ⟨by rw [hk.out]; simp [h4], rfl⟩
    have g4 : (s.toList == [46, 46]) = false := by simpa using h4
    cases hv : Lib.validD (str s)
    · have HV := Lib.hid hv
      clear hv
      go_enter Tryz.func115, Tryz.ntmps115
      go_wp2_with fail
      refine (rvalid_any s _ hs).mono ?_
      rintro e w1 ⟨rfl, e1⟩
      subst e1
      rw [HV.out]
      go_wp2_with fail
      go_ret
      exact ⟨by rw [hk.out]; simp [HV.out], rfl⟩
    · have HV := Lib.hid hv
      have HK := Lib.hid (show okName (str s) = noSep (str s) by rw [hk.out]; simp [HV.out, HZ.out, h2, h3, h4])
      clear hv hk h3 h4
      go_enter Tryz.func115, Tryz.ntmps115
      go_wp2_with fail
      refine (rvalid_any s _ hs).mono ?_
      rintro e w1 ⟨rfl, e1⟩
      subst e1
      rw [HV.out]
      go_wp2_with fail
      go_loopw [3] (fun x wr => ∃ i : Nat, x = .int .i64 i ∧ i ≤ s.size ∧ wr = w ∧ Hid (noSep (str s) = noSep ((str s).drop i))) (fun x _ => s.size - (intOf x).toNat)
      case atStart => exact ⟨0, rfl, by omega, rfl, Lib.hid rfl⟩
      case round =>
        obtain ⟨i, rfl, hi, rfl, hn⟩ := hrel
        by_cases hlt : i < s.size
        · obtain ⟨x, hx⟩ : ∃ x : UInt8, s[i]'hlt = x := ⟨_, rfl⟩
          have hxl : (str s)[i]? = some x := by rw [← hx]; exact Lib.data_getElem? s i hlt
          have hdr : (str s).drop i = x :: (str s).drop (i + 1) := by
            obtain ⟨h5, h6⟩ := List.getElem?_eq_some_iff.1 hxl
            rw [List.drop_eq_getElem_cons h5, h6]
          have HDR := Lib.hid hdr
          clear hxl hdr
          by_cases hx0 : x.toNat = 0
          · have f1 : ((x.toNat : Int) == 0) = true := by simp [hx0]
            have HX := Lib.hid (show x = 0 from UInt8.toNat_inj.1 hx0)
            clear hx0
            go_wp2_with fail
            go_ret
            exact ⟨by rw [HK.out, hn.out, HDR.out, HX.out]; simp [noSep], rfl⟩
          · have f1 : ((x.toNat : Int) == 0) = false := by simp [hx0]
            by_cases hx7 : x.toNat = 47
            · have f2 : ((x.toNat : Int) == 47) = true := by simp [hx7]
              have HX := Lib.hid (show x = 47 from UInt8.toNat_inj.1 hx7)
              clear hx0 hx7
              go_wp2_with fail
              go_ret
              exact ⟨by rw [HK.out, hn.out, HDR.out, HX.out]; simp [noSep], rfl⟩
            · have f2 : ((x.toNat : Int) == 47) = false := by simp; omega
              have HX := Lib.hid (And.intro (show ¬ x = 0 from fun e => hx0 (by rw [e]; rfl)) (show ¬ x = 47 from fun e => hx7 (by rw [e]; rfl)))
              clear hx0 hx7
              go_wp2_with fail
              refine ⟨⟨i + 1, by congr 1, by omega, by trivial, Lib.hid ?_⟩, by simp only [intOf]; omega⟩
              rw [hn.out, HDR.out]
              simp [noSep, HX.out.1, HX.out.2]
        · obtain rfl : i = s.size := by omega
          go_wp2_with fail
          go_ret
          have : (str s).drop s.size = [] := List.drop_eq_nil_of_le (by rw [str_size]; exact Nat.le_refl _)
          exact ⟨by rw [HK.out, hn.out, this]; rfl, rfl⟩
  · go_enter Tryz.func115, Tryz.ntmps115
    go_wp2_with fail
    go_ret
    exact ⟨by rw [hk.out]; simp [h2], rfl⟩
end Go.Proofs.YtgcfkljooabjjaaGreatDoor
