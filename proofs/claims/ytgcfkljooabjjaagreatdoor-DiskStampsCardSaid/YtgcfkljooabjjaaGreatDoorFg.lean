/- Texts of this claim, one behind the other: DStep DFlush DSt Big DSync DGet DWrite DRep DRem DMk DLk. Conditions: what each lemma states. -/
import Derived.Test.YtgcfkljooabjjaaGreatDoorFe
import Derived.Test.YtgcfkljooabjjaaGreatDoorFf
import Derived.Deep.RegionLawGrows
import Derived.StillTailTactics
import Derived.Test.YtgcfkljooabjjaaGreatDoorFd
/- A disk's step: the walk. Conditions: what the contract states. -/
namespace Go.Proofs.YtgcfkljooabjjaaGreatDoor
open Go.RowKit Go.Op Go.Maps

theorem infoStr7 : (Tryz.prog.info? 9).map (fun i => (i.zero, i.size, i.bytes)) = some (some (.string ⟨#[]⟩), 1, 16) := by kernel_rfl
theorem infoDid : (Tryz.prog.info? 73).map (fun i => (i.zero, i.size, i.bytes)) = some (some (.agg #[.string ⟨#[]⟩, .string ⟨#[]⟩, .string ⟨#[]⟩]), 3, 48) := by kernel_rfl
/-- a step of the trace goes behind those before -/
theorem DiskP.traced {w w' : World} {G : Geo} {D : PDisk} {tv : Value} {k : List Nat} {d : DidP} {c : Nat} (h : DiskP w G D) (ho : Off k w w') (hk : ∀ b ∈ k, b ∈ G.parts → b ∈ G.tv.ownBlock.toList)
    (hv : w'.ownsRow 0 73 3 tv (D.trace.length + 1) (didCells D.trace ++ [.string d.call, .string d.path, .string d.dest])) :
    DiskP w' { G with tv := tv } { D with trace := D.trace ++ [d], clock := c } := by
  have hl : ∀ b ∈ k, b ∈ G.parts → ∃ cs, Blk w b 73 cs := fun b hb hp => own_blks h.trace b (hk b hb hp)
  have mp : ∀ b ∈ G.parts, IsMapB w b → b ∉ k := fun b hb hm hin => by
    obtain ⟨cs, hB⟩ := hl b hin hb
    exact hm.ne hB rfl
  have ty : ∀ b ∈ G.parts, ∀ t cs, Blk w b t cs → t ≠ 73 → b ∉ k := fun b hb t cs hB ht hin => by
    obtain ⟨cs', hB'⟩ := hl b hin hb
    exact hB.ne_ hB' ht rfl
  have r1 : ∀ b ∈ G.rest, b ∈ G.parts := fun b hb => List.mem_cons_of_mem _ hb
  exact {
    names := h.names.off ho (mp _ (List.mem_cons_self ..) h.names.isMap)
    safe := h.safe.off ho (fun x hx => mp x (r1 _ (mem_rest.2 (.inl hx))) (by
      have := h.safe
      cases hs : G.sb with
      | none => rw [hs] at hx; simp at hx
      | some s =>
        rw [hs] at hx this
        simp at hx
        subst hx
        exact NMat.isMap this))
    later := own_offk h.later ho (fun x hx => by
      obtain ⟨cs, hB⟩ := own_blks h.later x hx
      exact ty x (r1 _ (mem_rest.2 (.inr (.inr (.inr (.inr (.inl hx))))))) _ _ hB (by decide))
    lbl := h.lbl
    laters := fun i b l h1 h2 => by
      have hN := h.laters i b l h1 h2
      exact hN.off ho (mp b (r1 _ (mem_rest.2 (.inr (.inr (.inl (List.mem_of_getElem? h1)))))) hN.isMap)
    ino := h.ino.off ho (mp _ (r1 _ (mem_rest.2 (.inr (.inl rfl)))) h.ino.isMap)
    qsl := h.qsl
    inos := fun i q n h1 h2 => by
      have hB := h.inos i q n h1 h2
      exact hB.off ho (ty q (r1 _ (mem_rest.2 (.inr (.inr (.inr (.inl (List.mem_of_getElem? h1))))))) _ _ hB (by decide))
    nodup := h.nodup
    trace := by
      show w'.ownsRow 0 73 3 tv (D.trace ++ [d]).length (didCells (D.trace ++ [d]))
      rw [List.length_append]
      have e : didCells (D.trace ++ [d]) = didCells D.trace ++ [.string d.call, .string d.path, .string d.dest] := by simp [didCells]
      rw [e]
      exact hv
    fates := h.fates.off ho (fun x hx => by
      obtain ⟨t, cs, hB, hW⟩ := h.fbl x hx
      exact ty x (r1 _ (mem_rest.2 (.inr (.inr (.inr (.inr (.inr (.inr hx)))))))) _ _ hB (hW.ne (by decide)))
    fbl := fun g hg => by
      obtain ⟨t, cs, hB, hW⟩ := h.fbl g hg
      exact ⟨t, cs, hB.off ho (ty g (r1 _ (mem_rest.2 (.inr (.inr (.inr (.inr (.inr (.inr hg)))))))) _ _ hB (hW.ne (by decide))), hW⟩
    apart := h.apart }
theorem row_len {w : World} {base e sz n : Nat} {v : Value} {xs : List Value} (h : w.ownsRow base e sz v n xs) : ∃ p c, v = .slice p n c := by
  rcases h.2 with ⟨h1, h2⟩ | ⟨g, cap, cur, h1, _⟩
  · exact ⟨none, 0, by rw [h1, h2]⟩
  · exact ⟨_, _, h1⟩
theorem cell_three_at {w : World} {g : Nat} {t : TypeId} {x y z : Value} (h : Blk w g t #[x, y, z]) : ∀ j u, [x, y, z][j]? = some u → w.cell? ((⟨g, 0, none⟩ : Addr).add j) = some u := by
  intro j u hj
  rw [addr_add, h.cell]
  simpa using hj
def strVals (xs : List ByteArray) : List Value := xs.map .string
theorem two_more (xs : List ByteArray) : (strVals xs ++ [.string ⟨#[]⟩, .string ⟨#[]⟩])[0]? = some (.string (xs.getD 0 ⟨#[]⟩)) ∧ (strVals xs ++ [.string ⟨#[]⟩, .string ⟨#[]⟩])[1]? = some (.string (xs.getD 1 ⟨#[]⟩)) := by
  match xs with
  | [] => exact ⟨rfl, rfl⟩
  | [a] => exact ⟨rfl, rfl⟩
  | a :: b :: l => exact ⟨rfl, rfl⟩
theorem own_cells {w : World} {base n : Nat} {v : Value} {xs : List Value} (h : w.ownsRow base 9 1 v n xs) (hn : 0 < n) : ∃ g c, v = .slice (some ⟨g, 0, none⟩) n c ∧ base ≤ g ∧ g < w.heap.size ∧ n ≤ c ∧ (∃ cs, Blk w g 9 cs) ∧ ∀ (i : Nat) (u : Value), xs[i]? = some u → w.cell? ⟨g, i, none⟩ = some u := by
  rcases h.2 with ⟨_, h2⟩ | ⟨g, cap, cur, rfl, hb, hh, hc, _⟩
  · omega
  · obtain ⟨cur', hB, _, _, hk⟩ := own_blk h hn
    exact ⟨g, cap, rfl, hb, hB.lt, hc, ⟨_, hB⟩, fun i u hu => (hB.cell i).trans (hk i u hu)⟩
/-- behind the trace's append -/
def StepMid (w : World) (p ga T : Nat) (G : Geo) (E : PDisk) (wx : World) : Prop :=
  ∃ G', DiskM wx p G' E ∧ G'.sb = G.sb ∧ Off (p :: G.parts) w wx ∧ (∀ b ∈ G'.parts, b ∈ G.parts ∨ w.heap.size ≤ b) ∧ Blk wx ga 3 #[.int .i64 T]
theorem step_mid {w W w7 : World} {p ga T cl gg cap : Nat} {pt : Option Addr} {ct : Nat} {G : Geo} {D : PDisk} {call P1 P2 : ByteArray} {o : Obj} (hM : DiskM w p G D) (htv : G.tv = .slice pt T ct) (hT : D.trace.length = T) (hcl : D.clock = cl)
    (hB : Blk W p 99 ((diskCells G D).setIfInBounds 6 (.int .i64 (cl + 1)))) (ho : Off [p] w W) (hb : Blk W ga 3 #[.int .i64 T]) (hP : DiskP W G D)
    (hown : w7.ownsRow 0 73 3 (.slice (some ⟨gg, 0, none⟩) (T + 1) cap) (T + 1) (didCells D.trace ++ [.string call, .string P1, .string P2])) (hg : (W.alloc o).drew.grownBy w7 (Value.slice pt T ct).ownBlock) (hat : (Value.slice pt T ct).ownBlock = some gg ∨ gg = W.heap.size + 1) :
    StepMid w p ga T G { D with clock := D.clock + 1, trace := D.trace ++ [⟨call, P1, P2⟩] } (w7.setCell ⟨p, 7, none⟩ (.slice (some ⟨gg, 0, none⟩) (T + 1) cap)) := by
  rw [← htv] at hg hat
  have hlr : ∀ b ∈ G.tv.ownBlock.toList, b ∈ G.rest := fun b hb => mem_rest.2 (.inr (.inr (.inr (.inr (.inr (.inl hb))))))
  have ho7 : Off G.tv.ownBlock.toList W w7 := ((Off.refl _ W).alloc o).drew.grown hg (fun x hx => .inr (by rw [hx]; simp))
  have hP7 := hP.traced (tv := .slice (some ⟨gg, 0, none⟩) (T + 1) cap) (d := ⟨call, P1, P2⟩) (c := D.clock + 1) ho7 (fun b hb _ => hb) (by rw [hT]; exact hown)
  have hpl : p ∉ G.tv.ownBlock.toList := fun h => hM.far (List.mem_cons_of_mem _ (hlr p h))
  have hB7 := hB.off ho7 hpl
  have hga : ga ∉ G.tv.ownBlock.toList := fun h => by
    obtain ⟨cs, hBc⟩ := own_blks hP.trace ga h
    exact hb.ne_ hBc (by decide) rfl
  have hgap : ga ≠ p := hb.ne_ hB (by decide)
  refine ⟨{ G with tv := .slice (some ⟨gg, 0, none⟩) (T + 1) cap }, ⟨?_, hP7.off (k := [p]) ((Off.refl [p] w7).setCell (.inr (by simp)) _) (fun b hb h => ?_)⟩, rfl, ?_, fun b hb => ?_, (hb.off ho7 hga).far hgap _⟩
  · have := hB7.set_ 7 (.slice (some ⟨gg, 0, none⟩) (T + 1) cap)
    unfold diskCells at this ⊢
    subst hcl
    simpa using this
  · simp at h; subst h
    exact hP7.far hB7 (by decide) hb
  · refine ((ho.mono (fun x _ h => by simp at h; subst h; exact List.mem_cons_self ..)).trans ho7 (fun x _ h => List.mem_cons_of_mem _ (List.mem_cons_of_mem _ (hlr x h)))).setCell (.inr (by simp)) _
  · have hsz := ho.size
    rcases List.mem_cons.1 hb with rfl | hb
    · exact .inl (List.mem_cons_self ..)
    · rcases mem_rest.1 hb with h | h | h | h | h | h | h
      · exact .inl (List.mem_cons_of_mem _ (mem_rest.2 (.inl h)))
      · exact .inl (List.mem_cons_of_mem _ (mem_rest.2 (.inr (.inl h))))
      · exact .inl (List.mem_cons_of_mem _ (mem_rest.2 (.inr (.inr (.inl h)))))
      · exact .inl (List.mem_cons_of_mem _ (mem_rest.2 (.inr (.inr (.inr (.inl h))))))
      · exact .inl (List.mem_cons_of_mem _ (mem_rest.2 (.inr (.inr (.inr (.inr (.inl h)))))))
      · simp [Value.ownBlock] at h
        subst h
        rcases hat with h | h
        · exact .inl (List.mem_cons_of_mem _ (hlr b (by rw [h]; simp)))
        · exact .inr (by omega)
      · exact .inl (List.mem_cons_of_mem _ (mem_rest.2 (.inr (.inr (.inr (.inr (.inr (.inr h))))))))
/-- the disk behind the first edits of those that are laid -/
def PDisk.editTo (D : PDisk) (i : Nat) : PDisk := (D.edits.take i).foldl (fun E e => if e.at_ = (D.trace.length : Int) then E.edit e else E) D
theorem edit_keeps (D : PDisk) (e : EditP) : (D.edit e).trace = D.trace ∧ (D.edit e).off = D.off ∧ (D.edit e).fates = D.fates ∧ (D.edit e).clock = D.clock ∧ (D.edit e).edits = D.edits ∧ (D.edit e).ev = D.ev ∧ (D.edit e).safe = D.safe := by
  unfold PDisk.edit
  split
  · exact ⟨rfl, rfl, rfl, rfl, rfl, rfl, rfl⟩
  · obtain ⟨-, h2, h3, h4, h5, h6, h7⟩ := laid_same e.path (putR D.tree e.path e.value).1 { D with names := D.names.filter fun y => !within (str y.1) (str e.path) }
    obtain ⟨-, -, h8⟩ := laid_few e.path (putR D.tree e.path e.value).1 { D with names := D.names.filter fun y => !within (str y.1) (str e.path) }
    exact ⟨h3, h4, h5, h8, h6, h7, h2⟩
theorem edits_keep (t : Int) : ∀ (es : List EditP) (D : PDisk), (es.foldl (fun E e => if e.at_ = t then E.edit e else E) D).trace = D.trace ∧ (es.foldl (fun E e => if e.at_ = t then E.edit e else E) D).off = D.off ∧ (es.foldl (fun E e => if e.at_ = t then E.edit e else E) D).fates = D.fates ∧ (es.foldl (fun E e => if e.at_ = t then E.edit e else E) D).clock = D.clock ∧ (es.foldl (fun E e => if e.at_ = t then E.edit e else E) D).edits = D.edits ∧ (es.foldl (fun E e => if e.at_ = t then E.edit e else E) D).ev = D.ev ∧ (es.foldl (fun E e => if e.at_ = t then E.edit e else E) D).safe = D.safe
  | [], D => ⟨rfl, rfl, rfl, rfl, rfl, rfl, rfl⟩
  | e :: es, D => by
    rw [List.foldl_cons]
    by_cases h : e.at_ = t
    · rw [if_pos h]
      obtain ⟨a1, a2, a3, a4, a5, a6, a7⟩ := edits_keep t es (D.edit e)
      obtain ⟨b1, b2, b3, b4, b5, b6, b7⟩ := edit_keeps D e
      exact ⟨a1.trans b1, a2.trans b2, a3.trans b3, a4.trans b4, a5.trans b5, a6.trans b6, a7.trans b7⟩
    · rw [if_neg h]
      exact edits_keep t es D
theorem edited_eq {D : PDisk} (h : D.off = false) : D.edited = D.editTo D.edits.length := by
  unfold PDisk.edited PDisk.editTo
  rw [h, List.take_length]
  rfl
theorem edited_off {D : PDisk} (h : D.off = true) : D.edited = D := by
  unfold PDisk.edited
  rw [h]
  rfl
theorem editTo_next {D : PDisk} {i : Nat} (hi : i < D.edits.length) : D.editTo (i + 1) = if D.edits[i].at_ = (D.trace.length : Int) then (D.editTo i).edit D.edits[i] else D.editTo i := by
  unfold PDisk.editTo
  rw [List.take_succ_eq_append_getElem hi, List.foldl_append]
  rfl
/-- what a step's edits keep of a disk -/
structure EditsOk (D : PDisk) (n : Nat) : Prop where
  ok : ∀ i, Ok (D.editTo i) n
  light : ∀ i, i < D.edits.length → Light (D.editTo i)
theorem EditsOk.quiet {D : PDisk} {n : Nat} (h : D.edits = []) (hk : Ok D n) : EditsOk D n := ⟨fun i => by unfold PDisk.editTo; rw [h]; simpa using hk, fun i hi => by rw [h] at hi; simp at hi⟩
theorem EditsOk.last {D : PDisk} {n : Nat} (h : EditsOk D n) : Ok D.edited n := by
  cases ho : D.off
  · rw [edited_eq ho]; exact h.ok _
  · rw [edited_off ho]
    have := h.ok 0
    unfold PDisk.editTo at this
    simpa using this
set_option maxRecDepth 100000 in
set_option maxHeartbeats 8000000 in
theorem dstep_any (p k n : Nat) (ao : Option Addr) (G : Geo) (D : PDisk) (call : ByteArray) (xs : List ByteArray) (w : World) (hM : DiskM w p G D) (hsb : G.sb.isSome = true) (hE : EditsOk D n) (hnn : n ≤ 1000000)
    (hx : xs.length = k) (hk : k ≤ 2) (hn : ao = none → k = 0) (hc : ∀ b, ao = some b → ∀ j u, (strVals xs)[j]? = some u → w.cell? (b.add j) = some u) (hbl : ∀ b, ao = some b → b.block ∉ p :: G.parts ∧ b.block < w.heap.size) (hTT : ∀ W, Off (p :: G.parts) w W → Tabs W) :
    Calls Tryz.prog 47 #[.pointer (some ⟨p, 0, none⟩), .string call, .slice ao k k] w fun e w' =>
      e = .returned (.tuple #[.bool (D.edited.step call (xs.getD 0 ⟨#[]⟩) (xs.getD 1 ⟨#[]⟩)).1, .int .i64 (D.edited.step call (xs.getD 0 ⟨#[]⟩) (xs.getD 1 ⟨#[]⟩)).2.1]) ∧ DiskTo w p G.parts w' (D.edited.step call (xs.getD 0 ⟨#[]⟩) (xs.getD 1 ⟨#[]⟩)).2.2 := by
  obtain ⟨i0, hi0, hz0, hz1, hz2⟩ := info_parts infoStr7
  obtain ⟨i1, hi1, hy0, hy1, hy2⟩ := info_parts infoDid
  have HM := Lib.hid hM
  have HSB := Lib.hid hsb
  have HE := Lib.hid hE
  have HTT := Lib.hid hTT
  have HK0 := Lib.hid (show Ok D n by have := hE.ok 0; unfold PDisk.editTo at this; simpa using this)
  have HXL := Lib.hid hx
  have HN := Lib.hid hn
  have HC := Lib.hid hc
  have HBL := Lib.hid hbl
  obtain ⟨T, hT⟩ : ∃ T, D.trace.length = T := ⟨_, rfl⟩
  have HT := Lib.hid hT
  obtain ⟨pt, ct, htv⟩ := row_len hM.parts.trace
  rw [hT] at htv
  have HTV := Lib.hid htv
  have hTb : T ≤ 100000000 := by rw [← hT]; have := HK0.out.tlen; omega
  obtain ⟨cl, hcl⟩ : ∃ cl, D.clock = cl := ⟨_, rfl⟩
  have HCL := Lib.hid hcl
  have hclb : cl ≤ 1000000000000 := by rw [← hcl]; have := HK0.out.clock; omega
  have hc0 := hM.blk.cell
  have hf0 := hM.blk.frozen
  have hl0 := hM.blk.lt
  unfold diskCells at hc0
  obtain ⟨pe, ce, hev, -, hNm, -⟩ := hM.parts.fates.edits
  obtain ⟨N, hN⟩ : ∃ N, D.edits.length = N := ⟨_, rfl⟩
  rw [hN] at hev hNm
  unfold maxLen at hNm
  have HNN := Lib.hid hN
  have HEV := Lib.hid hev
  rw [htv, hcl, hev] at hc0
  cases ho : D.off
  case true =>
    rw [ho] at hc0
    have HS := Lib.hid (show D.edited.step call (xs.getD 0 ⟨#[]⟩) (xs.getD 1 ⟨#[]⟩) = (false, 75, D) by rw [edited_off ho]; unfold PDisk.step; rw [ho]; rfl)
    clear hM hsb hE hTT hx hn hc hbl hT htv hcl ho hev
    go_enter Tryz.func47, Tryz.ntmps47
    go_wp2_with fail
    go_ret2
    rw [HS.out]
    exact ⟨rfl, DiskTo.refl HM.out HSB.out⟩
  case false =>
    rw [ho] at hc0
    have HOF := Lib.hid ho
    clear hM hsb hE hTT hx hn hc hbl hT htv hcl ho hev
    go_enter Tryz.func47, Tryz.ntmps47
    go_wp2_with fail
    have HGP := Lib.hid (show ∀ b ∈ p :: G.parts, b < w.heap.size from fun b hb => by
      rcases List.mem_cons.1 hb with rfl | hb
      · exact HM.out.blk.lt
      · exact HM.out.parts.lt hb)
    have HST := Lib.hid (show DiskTo w p G.parts (w.alloc (.cells #[.int .i64 T] 3)) (D.editTo 0) ∧ Blk (w.alloc (.cells #[.int .i64 T] 3)) w.heap.size 3 #[.int .i64 T] from
      ⟨⟨G, by have : D.editTo 0 = D := by unfold PDisk.editTo; simp
              rw [this]; exact HM.out.alloc _, (Off.refl _ _).alloc _, fun b hb => .inl hb, HSB.out⟩, Blk.new w _ _⟩)
    clear hc0 hf0 hl0
    go_loopw [30] (fun x wr => ∃ i : Nat, x = .int .i64 i ∧ i ≤ N ∧ Hid (DiskTo w p G.parts wr (D.editTo i) ∧ Blk wr w.heap.size 3 #[.int .i64 T])) (fun x _ => N - (intOf x).toNat)
    case atStart => exact ⟨0, rfl, by omega, HST⟩
    case round =>
      clear HST
      obtain ⟨i, rfl, hi, HI⟩ := hrel
      obtain ⟨⟨G1, hM1, ho1, hp1, hsb1⟩, hb1⟩ := HI.out
      obtain ⟨k1, k2, k3, k4, k5, k6, k7⟩ := edits_keep (D.trace.length : Int) (D.edits.take i) D
      have k1 : (D.editTo i).trace = D.trace := k1
      have k2 : (D.editTo i).off = D.off := k2
      have k3 : (D.editTo i).fates = D.fates := k3
      have k4 : (D.editTo i).clock = D.clock := k4
      have k5 : (D.editTo i).edits = D.edits := k5
      have k6 : (D.editTo i).ev = D.ev := k6
      clear k7
      have HM1 := Lib.hid hM1
      have HO1 := Lib.hid (And.intro ho1 (And.intro hp1 hsb1))
      have HB1 := Lib.hid hb1
      have hgf : w.heap.size ∉ p :: G1.parts := fun h => by
        rcases List.mem_cons.1 h with h | h
        · have := HGP.out p (List.mem_cons_self ..); omega
        · exact hM1.parts.far hb1 (by decide) h
      have HGF := Lib.hid hgf
      by_cases hlt : i < N
      · have hil : i < D.edits.length := by rw [HNN.out]; exact hlt
        have hNX := editTo_next hil
        have hOK := HE.out.ok i
        have hLI := HE.out.light i hil
        obtain ⟨pe', ce', hv, -, -, hf⟩ := hM1.parts.fates.edits
        rw [k6, k5, HEV.out, HNN.out] at hv
        obtain ⟨rfl, rfl⟩ : pe = pe' ∧ ce = ce' := by simpa using hv
        rw [k5] at hf
        obtain ⟨g, rfl, hg, hgl, hcell⟩ := hf (fun e => by rw [e] at hil; simp at hil)
        obtain ⟨u, hu, hcs⟩ := hcell i _ (List.getElem?_eq_getElem hil)
        generalize D.edits[i] = e at hNX hu hcs
        rw [HT.out] at hNX
        have HNX := Lib.hid hNX
        have HOK := Lib.hid (And.intro hOK hLI)
        have HU := Lib.hid hu
        obtain ⟨uq, ud, rfl, -⟩ := hu
        obtain ⟨un, hun⟩ : ∃ un, e.value.length = un := ⟨_, rfl⟩
        rw [hun] at hcs HU
        have c0 : wr.cell? ⟨g, i * 3, none⟩ = some (.int .i64 e.at_) := hcs 0 _ rfl
        have c1 : wr.cell? ⟨g, i * 3 + 1, none⟩ = some (.string e.path) := hcs 1 _ rfl
        have c2 : wr.cell? ⟨g, i * 3 + 2, none⟩ = some (.slice uq un ud) := hcs 2 _ rfl
        have hinn : (i : Int) < N := by omega
        clear hv hf hcell hcs hg hNX hOK hLI hun hil k1 k2 k3 k4 k5 k6 hM1 ho1 hp1 hsb1 hb1 hgf
        go_upto_region 7 with fail
        refine code_gen (fun W3 => Blk W3 wr.heap.size 104 #[.int .i64 e.at_, .string e.path, .slice uq un ud] ∧ Off [] wr W3) ⟨Blk.new _ _ _, (Off.refl _ _).alloc _⟩ ?_
        rintro W3 ⟨hbe, ho3⟩
        have hce := hbe.cell
        have HO3 := Lib.hid ho3
        have HM3 := Lib.hid (HM1.out.off (k := []) ho3 (by simp) (by simp))
        have HB3 := Lib.hid (HB1.out.off ho3 (by simp))
        have hcb := HB3.out.cell
        clear hbe ho3 c0 c1 c2 hgl
        by_cases hq : e.at_ = T
        · have hq1 : (e.at_ == (T : Int)) = true := by rw [hq]; simp
          have HNX := Lib.hid (show D.editTo (i + 1) = (D.editTo i).edit e by rw [HNX.out, if_pos hq])
          have HEDI := Lib.hid (dedit_any p n G1 (D.editTo i) e (.slice uq un ud) G1.fb W3 HM3.out HO1.out.2.2 HOK.out.1 hnn HOK.out.2 (HU.out.off HO3.out (by simp)) (fun W hW => HTT.out W ((HO1.out.1.trans HO3.out (fun _ _ h => by simp at h)).trans hW (fun x hx hm => by
            rcases List.mem_cons.1 hm with rfl | hm
            · exact List.mem_cons_self ..
            · rcases HO1.out.2.1 x hm with h | h
              · exact List.mem_cons_of_mem _ h
              · omega))))
          clear hq
          go_wp2_with fail
          refine HEDI.out.mono ?_
          rintro e' w5 ⟨rfl, hT5⟩
          have HT5 := Lib.hid hT5
          clear hT5 hce hcb HEDI
          go_wp2_with fail
          refine ⟨⟨i + 1, by congr 1, by omega, Lib.hid ⟨?_, ?_⟩⟩, by simp only [intOf]; omega⟩
          · rw [HNX.out]
            exact DiskTo.next (HO1.out.1.trans HO3.out (fun _ _ h => by simp at h)) HO1.out.2.1 HT5.out
          · obtain ⟨_, -, h2, -⟩ := HT5.out
            exact HB3.out.off h2 HGF.out
        · have hq1 : (e.at_ == (T : Int)) = false := beq_eq_false_iff_ne.2 hq
          have HNX := Lib.hid (show D.editTo (i + 1) = D.editTo i by rw [HNX.out, if_neg hq])
          clear hq
          go_wp2_with fail
          refine ⟨⟨i + 1, by congr 1, by omega, Lib.hid ⟨?_, HB3.out⟩⟩, by simp only [intOf]; omega⟩
          rw [HNX.out]
          exact ⟨G1, HM3.out, HO1.out.1.trans HO3.out (fun _ _ h => by simp at h), HO1.out.2.1, HO1.out.2.2⟩
      obtain rfl : N = i := by omega
      have HEDT := Lib.hid (show D.edited = D.editTo N by rw [edited_eq HOF.out, HNN.out])
      have HOKE := Lib.hid (HE.out.ok N)
      obtain ⟨E0, hE0⟩ : ∃ E0, D.editTo N = E0 := ⟨_, rfl⟩
      rw [hE0] at HM1 HEDT HOKE k1 k2 k3 k4 k5 k6
      obtain ⟨pt, ct, htv⟩ := row_len HM1.out.parts.trace
      rw [k1, HT.out] at htv
      have HTV := Lib.hid htv
      have HT := Lib.hid (show E0.trace.length = T by rw [k1]; exact HT.out)
      have HCL := Lib.hid (show E0.clock = cl by rw [k4]; exact HCL.out)
      have HOF := Lib.hid (show E0.off = false by rw [k2]; exact HOF.out)
      have HEV := Lib.hid (show E0.ev = .slice pe N ce by rw [k6]; exact HEV.out)
      have HSB := Lib.hid HO1.out.2.2
      have HF := Lib.hid (HOKE.out.few (by omega))
      have HC := Lib.hid (show ∀ b, ao = some b → ∀ j u, (strVals xs)[j]? = some u → wr.cell? (b.add j) = some u from fun b hb j u hu => by
        rw [HO1.out.1.cell (p := b.add j) (by rw [add_block]; exact (HBL.out b hb).2) (by rw [add_block]; exact (HBL.out b hb).1)]
        exact HC.out b hb j u hu)
      have HBL := Lib.hid (show ∀ b, ao = some b → b.block < wr.heap.size from fun b hb => Nat.lt_of_lt_of_le (HBL.out b hb).2 HO1.out.1.size)
      have HEDS := Lib.hid (show D.edited = E0 from HEDT.out)
      clear hE0 k1 k2 k3 k4 k5 k6 hM1 ho1 hp1 hsb1 hb1 hgf htv HI HM HK0 HE HEDT HTT HGP HNN
      have HO := Lib.hid (Off.refl [] wr)
      have ho := HO.out
      have HB := HB1
      have HM := HM1
      have hBp := HM.out.blk
      have HBP := Lib.hid hBp
      have hc0 := hBp.cell
      have hf0 := hBp.frozen
      have hl0 := hBp.lt
      have hlw := ho.size
      have hb := HB.out
      unfold diskCells at hc0
      rw [HTV.out, HCL.out, HOF.out, HEV.out] at hc0
      have HCW := Lib.hid (show ∀ b, ao = some b → ∀ j u, (strVals xs)[j]? = some u → (wr.alloc (.cells #[.string ⟨#[]⟩, .string ⟨#[]⟩] 9)).cell? (b.add j) = some u from fun b hb j u hu => by
        have h1 := HC.out b hb j u hu
        have h2 := HBL.out b hb
        have h3 := ((ho.alloc (.cells #[.string ⟨#[]⟩, .string ⟨#[]⟩] 9)).cell (p := b.add j) (by rw [add_block]; exact h2) (by simp))
        rw [h3]; exact h1)
      have HSL := Lib.hid (show (strVals xs).length = k * 1 by unfold strVals; rw [List.length_map, HXL.out]; omega)
      clear hb ho hBp
      go_upto_region 10 with fail
      go_upto_region 11 with (at_builtin; refine wpList_append_grows _ rfl _ _ 47 rfl 9 i0 _ 1 16 Tryz.underlying47 hi0 hz0 hz1 hz2 rfl (by decide) ao k k (strVals xs) rfl (fun h => ⟨HN.out h, HN.out h⟩) HSL.out HCW.out ⟨wr.heap.size, 0, none⟩ 2 2 [.string ⟨#[]⟩, .string ⟨#[]⟩] rfl rfl (cell_two_at (Blk.new wr _ _)) (by simp [Value.oneCell']) (by omega) (by unfold maxLen; omega) (by omega) ?_; intro v' w5 hown hgrow; obtain ⟨g5, c5, rfl, hge, hlt5, hkc, hst, hce⟩ := own_cells hown (by omega))
      obtain ⟨P1, hP1⟩ : ∃ P1, xs.getD 0 ⟨#[]⟩ = P1 := ⟨_, rfl⟩
      obtain ⟨P2, hP2⟩ : ∃ P2, xs.getD 1 ⟨#[]⟩ = P2 := ⟨_, rfl⟩
      have hw5 : Off [] wr w5 := ((Off.refl [] wr).alloc _).grown hgrow (fun k hk => by cases hk)
      refine code_gen (fun W => Blk W p 99 (diskCells G1 E0) ∧ Off [] wr W ∧ Blk W w.heap.size 3 #[.int .i64 T] ∧ (∃ cs, Blk W g5 9 cs) ∧ W.cell? ⟨g5, 0, none⟩ = some (.string P1) ∧ W.cell? ⟨g5, 1, none⟩ = some (.string P2))
        ⟨HBP.out.off hw5 (by simp), HO.out.trans_nil hw5, HB.out.off hw5 (by simp), hst, by rw [← hP1]; exact hce 0 _ (two_more xs).1, by rw [← hP2]; exact hce 1 _ (two_more xs).2⟩ ?_
      clear hc0 hf0 hl0 hown hgrow hst hce hw5 hge hlt5
      rintro W5 ⟨hBp, ho5, hb5, hst5, hs1, hs2⟩
      have HBP5 := Lib.hid hBp
      have HO5 := Lib.hid ho5
      have HB5 := Lib.hid hb5
      have HST5 := Lib.hid hst5
      have HS1 := Lib.hid hs1
      have HS2 := Lib.hid hs2
      have HPP := Lib.hid (And.intro hP1 hP2)
      have hc0 := hBp.cell
      have hf0 := hBp.frozen
      have hl0 := hBp.lt
      unfold diskCells at hc0
      rw [HTV.out, HCL.out, HOF.out, HEV.out] at hc0
      clear hBp ho5 hb5 hst5 hP1 hP2 hs1 hs2
      go_upto_region 12 with fail
      have hg5p : g5 ≠ p := by
        obtain ⟨cs, hB⟩ := HST5.out
        exact hB.ne_ HBP5.out (by decide)
      have hgap : w.heap.size ≠ p := HB5.out.ne_ HBP5.out (by decide)
      refine code_gen (fun W => Blk W p 99 ((diskCells G1 E0).setIfInBounds 6 (.int .i64 (cl + 1))) ∧ Off [p] wr W ∧ Blk W w.heap.size 3 #[.int .i64 T] ∧ W.cell? ⟨g5, 0, none⟩ = some (.string P1) ∧ W.cell? ⟨g5, 1, none⟩ = some (.string P2) ∧ DiskP W G1 E0 ∧ g5 < W.heap.size)
        ⟨HBP5.out.set_ 6 _, (HO5.out.mono (fun _ _ h => by simp at h)).setCell (.inr (by simp)) _, HB5.out.far hgap _, ?_, ?_, ?_, ?_⟩ ?_
      · obtain ⟨cs, hB⟩ := HST5.out
        have h1 := HS1.out
        rw [hB.cell] at h1
        rw [(hB.far hg5p _).cell]; exact h1
      · obtain ⟨cs, hB⟩ := HST5.out
        have h1 := HS2.out
        rw [hB.cell] at h1
        rw [(hB.far hg5p _).cell]; exact h1
      · refine (HM.out.parts.off HO5.out (by simp)).off (k := [p]) ((Off.refl [p] W5).setCell (.inr (by simp)) _) (fun b hb h => ?_)
        simp at h; subst h; exact HM.out.far hb
      · obtain ⟨cs, hB⟩ := HST5.out
        exact (hB.far hg5p _).lt
      clear hc0 hf0 hl0
      rintro W6 ⟨hBp, ho6, hb6, hs1, hs2, hP6, hlg⟩
      have HBP6 := Lib.hid hBp
      have HO6 := Lib.hid ho6
      have HB6 := Lib.hid hb6
      have HP6 := Lib.hid hP6
      have hc0 := hBp.cell
      have hf0 := hBp.frozen
      have hl0 := hBp.lt
      unfold diskCells at hc0
      simp only [List.setIfInBounds_toArray, List.set_cons_zero, List.set_cons_succ] at hc0
      rw [HTV.out, HOF.out, HEV.out] at hc0
      have hpl : some p ≠ G1.tv.ownBlock := fun e => HM.out.far (List.mem_cons_of_mem _ (mem_rest.2 (.inr (.inr (.inr (.inr (.inr (.inl (by rw [← e]; simp)))))))))
      have HPL := Lib.hid hpl
      have hown6 : (W6.alloc (.cells #[.string call, .string P1, .string P2] 73)).drew.ownsRow 0 73 3 (.slice pt T ct) T (didCells E0.trace) := by
        have := own_offk (k := []) hP6.trace (((Off.refl [] W6).alloc (.cells #[.string call, .string P1, .string P2] 73)).drew) (by simp)
        rw [HTV.out, HT.out] at this
        exact this
      have HW6 := Lib.hid hown6
      clear hBp ho6 hb6 hP6 hpl hown6 hg5p hgap
      have hk0 : (0 : Int) < (k : Int) + 2 := by omega
      have hk1 : (1 : Int) < (k : Int) + 2 := by omega
      go_cut [] from 52 to 68 (fun wx => StepMid wr p w.heap.size T G1 { E0 with clock := E0.clock + 1, trace := E0.trace ++ [⟨call, P1, P2⟩] } wx)
      case first =>
        go_region_law ((refine step_append_lies _ (by rfl) _ _ _ (by rfl) 0 73 i1 _ 3 48 Tryz.underlying67 hi1 hy0 hy1 hy2 rfl (by decide) _ T _ (by rfl) HW6.out ⟨W6.heap.size, 0, none⟩ 1 1 [_, _, _] (by rfl) (by rfl) (cell_three_at (Blk.new W6 _ _)) (by simp [Value.oneCell']) (by omega) (by unfold maxLen; omega) (by omega) (by simp) (W6.heap.size + 1) (by simp) ?_; intro gg cap w7 hown7 hgrow7 hat7 hlt7; have hB7 := ((HBP6.out.alloc _).drew).grown hgrow7 (by rw [← HTV.out]; exact HPL.out); have hc7 := hB7.cell; have hf7 := hB7.frozen; unfold diskCells at hc7))
        all_goals go_wp2_with fail
        all_goals go_meet
        all_goals exact step_mid HM.out HTV.out HT.out HCL.out HBP6.out HO6.out HB6.out HP6.out (by assumption) (by assumption) (by assumption)
      case rest =>
        obtain ⟨G3, hM3, hsb3, ho3, hp3, hb3⟩ := hcut
        have HSTEP := Lib.hid (show E0.step call P1 P2 = match E0.fates.find? (fun f => decide (f.at_ = (T : Int))) with
          | none => (false, 0, { E0 with clock := E0.clock + 1, trace := E0.trace ++ [⟨call, P1, P2⟩] })
          | some f => if f.what = 3 then (false, 75, ({ E0 with clock := E0.clock + 1, trace := E0.trace ++ [⟨call, P1, P2⟩] } : PDisk).crash f) else if f.what = 1 then (false, 70, { E0 with clock := E0.clock + 1, trace := E0.trace ++ [⟨call, P1, P2⟩] }) else (decide (f.what = 2), 0, { E0 with clock := E0.clock + 1, trace := E0.trace ++ [⟨call, P1, P2⟩] }) from by
          unfold PDisk.step
          rw [HOF.out, HT.out]
          rfl)
        have HEF := Lib.hid (show ({ E0 with clock := E0.clock + 1, trace := E0.trace ++ [⟨call, P1, P2⟩] } : PDisk).fates = E0.fates from rfl)
        have HEL := Lib.hid (show ({ E0 with clock := E0.clock + 1, trace := E0.trace ++ [⟨call, P1, P2⟩] } : PDisk).later.length ≤ 1000000000 from Nat.le_trans HF.out.later (by decide))
        have HEI := Lib.hid (show ({ E0 with clock := E0.clock + 1, trace := E0.trace ++ [⟨call, P1, P2⟩] } : PDisk).inos.length ≤ 1152921504606846976 from Nat.le_trans HF.out.inos (by decide))
        generalize ({ E0 with clock := E0.clock + 1, trace := E0.trace ++ [⟨call, P1, P2⟩] } : PDisk) = E at hM3 HSTEP HEF HEL HEI
        clear hc0 hf0 hl0 hs1 hs2
        have HM3 := Lib.hid hM3
        have HO3 := Lib.hid ho3
        have HP3 := Lib.hid hp3
        have HSB3 := Lib.hid (show G3.sb.isSome = true by rw [hsb3]; exact HSB.out)
        have HB3 := Lib.hid hb3
        have hfts := hM3.parts.fates.fates
        obtain ⟨nf, hn⟩ : ∃ nf, E.fates.length = nf := ⟨_, rfl⟩
        have HNF := Lib.hid hn
        have hnb : nf ≤ 5000000000000 := by rw [← hn, HEF.out]; exact HF.out.fates
        obtain ⟨pf, cf, hfv, -, hfc⟩ := hfts
        rw [hn] at hfv
        have HFV := Lib.hid hfv
        have HFC := Lib.hid hfc
        have hc0 := hM3.blk.cell
        have hf0 := hM3.blk.frozen
        have hl0 := hM3.blk.lt
        unfold diskCells at hc0
        rw [hfv] at hc0
        have HFIND := Lib.hid (dfind_any G3.fv G3.fb E.fates T w.heap.size nf wc hM3.parts.fates.fates hn hnb hb3)
        rw [hfv] at HFIND
        clear hM3 ho3 hp3 hsb3 hb3 hfv hfc hn
        go_wp2_with fail
        refine HFIND.out.mono ?_
        rintro e w8 ⟨rfl, ho8⟩
        have hM8 := HM3.out.off ho8 (by simp) (by simp)
        have HM8 := Lib.hid hM8
        have HO8 := Lib.hid (HO3.out.trans_nil ho8)
        clear hc0 hf0 hl0
        have hc0 := hM8.blk.cell
        have hf0 := hM8.blk.frozen
        have hl0 := hM8.blk.lt
        unfold diskCells at hc0
        rw [HFV.out] at hc0
        clear hM8
        have HEND := Lib.hid (DiskTo.next HO1.out.1 HO1.out.2.1 (DiskTo.next HO8.out HP3.out (DiskTo.refl HM8.out HSB3.out)))
        rcases idxAt_spec E.fates T with ⟨h1, h2⟩ | ⟨i, f, h1, h2, h3⟩
        · have HS := Lib.hid (show E0.step call P1 P2 = (false, 0, E) by rw [HSTEP.out, ← HEF.out, h2])
          rw [h1]
          clear h1 h2 ho8 HSTEP
          go_wp2_with fail
          go_ret2
          rw [HEDS.out, HPP.out.1, HPP.out.2, HS.out]
          exact ⟨rfl, HEND.out⟩
        · have HS0 := Lib.hid (show E0.step call P1 P2 = if f.what = 3 then (false, 75, E.crash f) else if f.what = 1 then (false, 70, E) else (decide (f.what = 2), 0, E) by rw [HSTEP.out, ← HEF.out, h3])
          have hin : i < nf := by rw [← HNF.out]; exact (List.getElem?_eq_some_iff.1 h2).1
          have hne : E.fates ≠ [] := by intro e; rw [e] at h2; simp at h2
          obtain ⟨g, rfl, hg, hgl, hcell⟩ := HFC.out hne
          have hcs := hcell i f h2
          have c0 : w8.cell? ⟨g, i * 4, none⟩ = some (.int .i64 f.at_) := (ho8.cell (p := ⟨g, i * 4, none⟩) hgl (by simp)).trans (hcs 0 _ rfl)
          have c1 : w8.cell? ⟨g, i * 4 + 1, none⟩ = some (.int .i64 f.what) := (ho8.cell (p := ⟨g, i * 4 + 1, none⟩) hgl (by simp)).trans (hcs 1 _ rfl)
          have c2 : w8.cell? ⟨g, i * 4 + 2, none⟩ = some (.int .i64 f.keep) := (ho8.cell (p := ⟨g, i * 4 + 2, none⟩) hgl (by simp)).trans (hcs 2 _ rfl)
          have c3 : w8.cell? ⟨g, i * 4 + 3, none⟩ = some (.int .i64 f.torn) := (ho8.cell (p := ⟨g, i * 4 + 3, none⟩) hgl (by simp)).trans (hcs 3 _ rfl)
          have hinn : (i : Int) < nf := by omega
          rw [h1]
          clear h1 h2 h3 hne hg hcell hcs HSTEP ho8 HFC
          by_cases h3 : f.what = 3
          · have HS := Lib.hid (show E0.step call P1 P2 = (false, 75, E.crash f) by rw [HS0.out, if_pos h3])
            have hq3 : (f.what == 3) = true := by rw [h3]; rfl
            clear HS0 h3
            go_wp2_with fail
            refine (dcrash_any p G3 E f w8 HM8.out HSB3.out HEL.out HEI.out).mono ?_
            rintro e w9 ⟨rfl, hT⟩
            clear hc0 hf0 hl0 c0 c1 c2 c3 hq3
            go_wp2_with fail
            go_ret2
            rw [HEDS.out, HPP.out.1, HPP.out.2, HS.out]
            exact ⟨rfl, DiskTo.next HO1.out.1 HO1.out.2.1 (DiskTo.next HO8.out HP3.out hT)⟩
          · have hq3 : (f.what == 3) = false := beq_eq_false_iff_ne.2 h3
            by_cases h4 : f.what = 1
            · have HS := Lib.hid (show E0.step call P1 P2 = (false, 70, E) by rw [HS0.out, if_neg h3, if_pos h4])
              have hq4 : (f.what == 1) = true := by rw [h4]; rfl
              clear HS0 h3 h4
              go_wp2_with fail
              go_ret2
              rw [HEDS.out, HPP.out.1, HPP.out.2, HS.out]
              exact ⟨rfl, HEND.out⟩
            · have HS := Lib.hid (show E0.step call P1 P2 = (decide (f.what = 2), 0, E) by rw [HS0.out, if_neg h3, if_neg h4])
              have hq4 : (f.what == 1) = false := beq_eq_false_iff_ne.2 h4
              clear HS0 h3 h4
              go_wp2_with fail
              go_ret2
              rw [HEDS.out, HPP.out.1, HPP.out.2, HS.out]
              exact ⟨rfl, HEND.out⟩
end Go.Proofs.YtgcfkljooabjjaaGreatDoor

/- A disk's On, Flush, Sync: the walks. Conditions: what each contract states. -/
namespace Go.Proofs.YtgcfkljooabjjaaGreatDoor
open Go.RowKit Go.Op Go.Maps

theorem DiskP.flushed {w : World} {G : Geo} {D : PDisk} (h : DiskP w G D) : DiskP w { G with sb := some G.nb, lv := .slice none 0 0, lb := [] } { D with safe := D.names, later := [] } where
  names := h.names
  safe := h.names
  later := World.ownsRow_nil w 0 _ 1
  lbl := rfl
  laters := fun i b l h1 _ => by simp at h1
  ino := h.ino
  qsl := h.qsl
  inos := h.inos
  nodup := h.nodup
  trace := h.trace
  fates := h.fates
  fbl := h.fbl
  apart := ⟨h.apart.1, fun e => h.apart.1 (by injection e with e; exact e.symm), by simp⟩
/-- an inode is written anew -/
theorem DiskP.inoSet {w w' : World} {G : Geo} {D : PDisk} {i q : Nat} {n : Ino} {k : List Nat} (h : DiskP w G D) (ho : Off k w w') (hk : ∀ b ∈ k, b ∈ G.parts → b = q) (hq : G.qs[i]? = some q) (hB : Blk w' q 114 (inoCells n)) :
    DiskP w' G { D with inos := D.inos.set i n } := by
  have hqb : ∃ cs, Blk w q 114 cs := by
    have hl : i < D.inos.length := by rw [← h.qsl]; exact (List.getElem?_eq_some_iff.1 hq).1
    exact ⟨_, h.inos i q _ hq (List.getElem?_eq_getElem hl)⟩
  obtain ⟨cq, hqb⟩ := hqb
  have mp : ∀ b ∈ G.parts, IsMapB w b → b ∉ k := fun b hb hm hin => by
    have e := hk b hin hb
    rw [e] at hm
    exact hm.ne hqb rfl
  have ty : ∀ b ∈ G.parts, ∀ t cs, Blk w b t cs → t ≠ 114 → b ∉ k := fun b hb t cs hB ht hin => by
    have e := hk b hin hb
    rw [e] at hB
    exact hB.ne_ hqb ht rfl
  have r1 : ∀ b ∈ G.rest, b ∈ G.parts := fun b hb => List.mem_cons_of_mem _ hb
  exact {
    names := h.names.off ho (mp _ (List.mem_cons_self ..) h.names.isMap)
    safe := h.safe.off ho (fun x hx => mp x (r1 _ (mem_rest.2 (.inl hx))) (by
      have := h.safe
      cases hs : G.sb with
      | none => rw [hs] at hx; simp at hx
      | some s =>
        rw [hs] at hx this
        simp at hx
        subst hx
        exact NMat.isMap this))
    later := own_offk h.later ho (fun x hx => by
      obtain ⟨cs, hB⟩ := own_blks h.later x hx
      exact ty x (r1 _ (mem_rest.2 (.inr (.inr (.inr (.inr (.inl hx))))))) _ _ hB (by decide))
    lbl := h.lbl
    laters := fun i b l h1 h2 => by
      have hN := h.laters i b l h1 h2
      exact hN.off ho (mp b (r1 _ (mem_rest.2 (.inr (.inr (.inl (List.mem_of_getElem? h1)))))) hN.isMap)
    ino := h.ino.off ho (mp _ (r1 _ (mem_rest.2 (.inr (.inl rfl)))) h.ino.isMap)
    qsl := by simp [h.qsl]
    inos := fun j r m h1 h2 => by
      have h2 : (D.inos.set i n)[j]? = some m := h2
      by_cases hj : i = j
      · subst hj
        rw [hq] at h1
        cases h1
        have hl : i < D.inos.length := by rw [← h.qsl]; exact (List.getElem?_eq_some_iff.1 hq).1
        rw [List.getElem?_set_self hl] at h2
        cases h2
        exact hB
      · rw [List.getElem?_set_ne hj] at h2
        have hB' := h.inos j r m h1 h2
        have hne : r ≠ q := fun e => by
          subst e
          have h3 := (List.getElem?_eq_some_iff.1 h1)
          have h4 := (List.getElem?_eq_some_iff.1 hq)
          have h5 := List.pairwise_iff_getElem.1 h.nodup
          rcases Nat.lt_or_ge j i with h | h
          · exact h5 j i h3.1 h4.1 h (by rw [h3.2, h4.2])
          · exact h5 i j h4.1 h3.1 (by omega) (by rw [h3.2, h4.2])
        exact hB'.off ho (fun hin => hne (hk r hin (r1 _ (mem_rest.2 (.inr (.inr (.inr (.inl (List.mem_of_getElem? h1)))))))))
    nodup := h.nodup
    trace := own_offk h.trace ho (fun x hx => by
      obtain ⟨cs, hB⟩ := own_blks h.trace x hx
      exact ty x (r1 _ (mem_rest.2 (.inr (.inr (.inr (.inr (.inr (.inl hx)))))))) _ _ hB (by decide))
    fates := h.fates.off ho (fun x hx => by
      obtain ⟨t, cs, hB, hW⟩ := h.fbl x hx
      exact ty x (r1 _ (mem_rest.2 (.inr (.inr (.inr (.inr (.inr (.inr hx)))))))) _ _ hB (hW.ne (by decide)))
    fbl := fun g hg => by
      obtain ⟨t, cs, hB, hW⟩ := h.fbl g hg
      exact ⟨t, cs, hB.off ho (ty g (r1 _ (mem_rest.2 (.inr (.inr (.inr (.inr (.inr (.inr hg)))))))) _ _ hB (hW.ne (by decide))), hW⟩
    apart := h.apart }
set_option maxRecDepth 100000 in
theorem don_any (p : Nat) (G : Geo) (D : PDisk) (w : World) (hM : DiskM w p G D) :
    Calls Tryz.prog 36 #[.pointer (some ⟨p, 0, none⟩)] w fun e w' => e = .returned (.bool (!D.off)) ∧ Off [] w w' := by
  have hc := hM.blk.cell
  unfold diskCells at hc
  clear hM
  go_enter Tryz.func36, Tryz.ntmps36
  go_wp2_with fail
  go_ret
  exact ⟨rfl, Off.refl _ _⟩
/-- two steps in one -/
theorem DiskTo.trans {w w1 w2 : World} {p : Nat} {L : List Nat} {D1 D2 : PDisk} (h : DiskTo w p L w1 D1) (k : ∀ G1, DiskM w1 p G1 D1 → G1.sb.isSome = true → DiskTo w1 p G1.parts w2 D2) : DiskTo w p L w2 D2 := by
  obtain ⟨G1, hM, ho, hp, hs⟩ := h
  exact DiskTo.next ho hp (k G1 hM hs)
set_option maxRecDepth 100000 in
set_option maxHeartbeats 4000000 in
theorem dflush_any (p n : Nat) (G : Geo) (D : PDisk) (w : World) (hM : DiskM w p G D) (hsb : G.sb.isSome = true) (hE : EditsOk D n) (hn : n ≤ 1000000) (hTT : ∀ W, Off (p :: G.parts) w W → Tabs W) :
    Calls Tryz.prog 19 #[.pointer (some ⟨p, 0, none⟩)] w fun e w' => e = .returned (.int .i64 D.edited.flush.1) ∧ DiskTo w p G.parts w' D.edited.flush.2 := by
  have HST := Lib.hid (dstep_any p 0 n none G D ⟨#[70, 108, 117, 115, 104]⟩ [] w hM hsb hE hn rfl (by omega) (fun _ => rfl) (fun b hb => by cases hb) (fun b hb => by cases hb) hTT)
  have HS := Lib.hid (show D.edited.flush = match D.edited.step ⟨#[70, 108, 117, 115, 104]⟩ ⟨#[]⟩ ⟨#[]⟩ with | (full, e, E) => if e ≠ 0 then (e, E) else (0, E.flush_) from rfl)
  clear hM hsb hE hTT
  have HST := Lib.hid (show Calls Tryz.prog 47 #[.pointer (some ⟨p, 0, none⟩), .string ⟨#[70, 108, 117, 115, 104]⟩, .slice none 0 0] w fun e w' => e = .returned (.tuple #[.bool (D.edited.step ⟨#[70, 108, 117, 115, 104]⟩ ⟨#[]⟩ ⟨#[]⟩).1, .int .i64 (D.edited.step ⟨#[70, 108, 117, 115, 104]⟩ ⟨#[]⟩ ⟨#[]⟩).2.1]) ∧ DiskTo w p G.parts w' (D.edited.step ⟨#[70, 108, 117, 115, 104]⟩ ⟨#[]⟩ ⟨#[]⟩).2.2 from HST.out)
  generalize D.edited.step ⟨#[70, 108, 117, 115, 104]⟩ ⟨#[]⟩ ⟨#[]⟩ = st at HST HS
  obtain ⟨full, er, E⟩ := st
  have HS := Lib.hid (show D.edited.flush = if er ≠ 0 then (er, E) else (0, E.flush_) from HS.out)
  go_enter Tryz.func19, Tryz.ntmps19
  go_wp2_with fail
  refine HST.out.mono ?_
  rintro e w1 ⟨rfl, hT⟩
  have HT := Lib.hid hT
  clear hT
  by_cases h0 : er = 0
  · subst h0
    have HS2 := Lib.hid (show D.edited.flush = (0, E.flush_) by rw [HS.out]; simp)
    obtain ⟨G1, hM1, ho1, hp1, hs1⟩ := HT.out
    have HM1 := Lib.hid hM1
    have HO1 := Lib.hid ho1
    have HP1 := Lib.hid hp1
    have hc := hM1.blk.cell
    have hf := hM1.blk.frozen
    have hl := hM1.blk.lt
    unfold diskCells at hc
    clear hM1 ho1 hp1 hs1
    go_wp2_with fail
    go_ret
    rw [HS2.out]
    refine ⟨rfl, DiskTo.next HO1.out HP1.out ?_⟩
    refine ⟨{ G1 with sb := some G1.nb, lv := .slice none 0 0, lb := [] }, ⟨?_, ?_⟩, ?_, fun b hb => ?_, rfl⟩
    · have := (HM1.out.blk.set_ 1 (.map (some G1.nb))).set_ 2 (.slice none 0 0)
      unfold diskCells at this ⊢
      simpa [PDisk.flush_] using this
    · refine HM1.out.parts.flushed.off (k := [p]) (((Off.refl [p] w1).setCell (.inr (by simp)) _).setCell (.inr (by simp)) _) (fun b hb h => ?_)
      simp at h; subst h
      exact HM1.out.parts.flushed.far HM1.out.blk (by decide) hb
    · exact (((Off.refl (p :: G1.parts) w1).setCell (.inr (by simp)) _).setCell (.inr (by simp)) _)
    · left
      rcases List.mem_cons.1 hb with rfl | hb
      · exact List.mem_cons_self ..
      · rcases mem_rest.1 hb with h | h | h | h | h | h | h
        · simp at h; subst h; exact List.mem_cons_self ..
        · exact List.mem_cons_of_mem _ (mem_rest.2 (.inr (.inl h)))
        · simp at h
        · exact List.mem_cons_of_mem _ (mem_rest.2 (.inr (.inr (.inr (.inl h)))))
        · simp [Value.ownBlock] at h
        · exact List.mem_cons_of_mem _ (mem_rest.2 (.inr (.inr (.inr (.inr (.inr (.inl h)))))))
        · exact List.mem_cons_of_mem _ (mem_rest.2 (.inr (.inr (.inr (.inr (.inr (.inr h)))))))
  · have HS2 := Lib.hid (show D.edited.flush = (er, E) by rw [HS.out, if_pos h0])
    have hne : (er == 0) = false := beq_eq_false_iff_ne.2 h0
    clear h0
    go_wp2_with fail
    go_ret
    rw [HS2.out]
    exact ⟨rfl, HT.out⟩
end Go.Proofs.YtgcfkljooabjjaaGreatDoor

/- A disk at a step of a run: it lies in memory, it is in order, the tables lie behind whatever it does. Conditions: none beyond what each lemma states. -/
namespace Go.Proofs.YtgcfkljooabjjaaGreatDoor
open Go.RowKit Go.Op Go.Maps

/-- whatever a disk at p with parts L does, the tables lie -/
def TabsX (w : World) (p : Nat) (L : List Nat) : Prop := ∀ W, Off (p :: L) w W → Tabs W
structure DSE (w : World) (p : Nat) (G : Geo) (D : PDisk) (n : Nat) : Prop where
  m : DiskM w p G D
  sb : G.sb.isSome = true
  ok : Ok D n
  tabs : TabsX w p G.parts
theorem TabsX.tabs {w : World} {p : Nat} {L : List Nat} (h : TabsX w p L) : Tabs w := h w (Off.refl _ _)
theorem TabsX.off {w W : World} {p : Nat} {L : List Nat} (h : TabsX w p L) (ho : Off [] w W) : Tabs W := h W (ho.mono (fun _ _ h => by simp at h))
theorem TabsX.next {w w' : World} {p : Nat} {L L' : List Nat} (h : TabsX w p L) (ho : Off (p :: L) w w') (hp : ∀ b ∈ L', b ∈ L ∨ w.heap.size ≤ b) : TabsX w' p L' := fun W hW => by
  refine h W (ho.trans hW (fun x hx hm => ?_))
  rcases List.mem_cons.1 hm with rfl | hm
  · exact List.mem_cons_self ..
  · rcases hp x hm with h | h
    · exact List.mem_cons_of_mem _ h
    · omega
theorem TabsX.of {w0 w : World} {p : Nat} {L : List Nat} (h : Tabs w0) (ho : Off [] w0 w) (hp : w0.heap.size ≤ p) (hL : ∀ b ∈ L, w0.heap.size ≤ b) : TabsX w p L := fun W hW =>
  h.off (ho.trans hW (fun x hx hm => by
    rcases List.mem_cons.1 hm with rfl | hm
    · omega
    · have := hL x hm; omega))
theorem DSE.off {w w' : World} {p n : Nat} {G : Geo} {D : PDisk} (h : DSE w p G D n) (ho : Off [] w w') : DSE w' p G D n :=
  ⟨h.m.off ho (by simp) (by simp), h.sb, h.ok, h.tabs.next (ho.mono (fun _ _ h => by simp at h)) (fun _ hb => .inl hb)⟩
/-- from a disk to a disk -/
def DSETo (w : World) (p : Nat) (L : List Nat) (w' : World) (D : PDisk) (n : Nat) : Prop := ∃ G, DSE w' p G D n ∧ Off (p :: L) w w' ∧ ∀ b ∈ G.parts, b ∈ L ∨ w.heap.size ≤ b
theorem DSE.to {w w1 w' : World} {p n n' : Nat} {G : Geo} {D D' : PDisk} (h : DSE w p G D n) (ho : Off [] w w1) (k : DiskTo w1 p G.parts w' D') (hk : Ok D' n') : DSETo w p G.parts w' D' n' := by
  obtain ⟨G', h1, h2, h3, h4⟩ := k
  have ho2 : Off (p :: G.parts) w w' := (ho.mono (fun _ _ h => by simp at h)).trans h2 (fun _ _ h => h)
  have hp : ∀ b ∈ G'.parts, b ∈ G.parts ∨ w.heap.size ≤ b := fun b hb => by
    rcases h3 b hb with h | h
    · exact .inl h
    · exact .inr (Nat.le_trans ho.size h)
  exact ⟨G', ⟨h1, h4, hk, h.tabs.next ho2 hp⟩, ho2, hp⟩
theorem DSETo.next {w w1 w2 : World} {p n n2 : Nat} {L : List Nat} {D1 D2 : PDisk} (h : DSETo w p L w1 D1 n) (k : ∀ G1, DSE w1 p G1 D1 n → DSETo w1 p G1.parts w2 D2 n2) : DSETo w p L w2 D2 n2 := by
  obtain ⟨G1, h1, h2, h3⟩ := h
  obtain ⟨G2, h4, h5, h6⟩ := k G1 h1
  refine ⟨G2, h4, h2.trans h5 (fun x hx hm => ?_), fun b hb => ?_⟩
  · rcases List.mem_cons.1 hm with rfl | hm
    · exact List.mem_cons_self ..
    · rcases h3 x hm with h | h
      · exact List.mem_cons_of_mem _ h
      · omega
  · rcases h6 b hb with h | h
    · exact h3 b h
    · exact .inr (Nat.le_trans h2.size h)
theorem DSETo.step {w w1 w2 : World} {p n2 : Nat} {L : List Nat} {G1 : Geo} {D2 : PDisk} (ho : Off (p :: L) w w1) (hp : ∀ b ∈ G1.parts, b ∈ L ∨ w.heap.size ≤ b) (k : DSETo w1 p G1.parts w2 D2 n2) : DSETo w p L w2 D2 n2 := by
  obtain ⟨G2, h4, h5, h6⟩ := k
  refine ⟨G2, h4, ho.trans h5 (fun x hx hm => ?_), fun b hb => ?_⟩
  · rcases List.mem_cons.1 hm with rfl | hm
    · exact List.mem_cons_self ..
    · rcases hp x hm with h | h
      · exact List.mem_cons_of_mem _ h
      · omega
  · rcases h6 b hb with h | h
    · exact hp b h
    · exact .inr (Nat.le_trans ho.size h)
theorem DSETo.off {w w1 w2 : World} {p n : Nat} {L : List Nat} {D : PDisk} (h : DSETo w p L w1 D n) (ho : Off [] w1 w2) : DSETo w p L w2 D n :=
  h.next fun G1 h1 => ⟨G1, h1.off ho, ho.mono (fun _ _ h => by simp at h), fun _ hb => .inl hb⟩
theorem DSE.refl {w : World} {p n : Nat} {G : Geo} {D : PDisk} (h : DSE w p G D n) : DSETo w p G.parts w D n := ⟨G, h, Off.refl _ _, fun _ hb => .inl hb⟩
theorem DSE.same {w w' : World} {p n : Nat} {G : Geo} {D : PDisk} (h : DSE w p G D n) (ho : Off [] w w') : DSETo w p G.parts w' D n := h.refl.off ho
theorem DSETo.le {w w' : World} {p n m : Nat} {L : List Nat} {D : PDisk} (h : DSETo w p L w' D n) (hm : n ≤ m) : DSETo w p L w' D m := by
  obtain ⟨G, h1, h2, h3⟩ := h
  exact ⟨G, ⟨h1.m, h1.sb, PDisk.ok_mono h1.ok hm, h1.tabs⟩, h2, h3⟩
theorem DSETo.ex {w w' : World} {p n : Nat} {L : List Nat} {D : PDisk} (h : DSETo w p L w' D n) : ∃ G, DSE w' p G D n := ⟨_, h.choose_spec.1⟩
/-- one path asked for -/
theorem dstep_oneE (p n : Nat) (G : Geo) (D : PDisk) (call path : ByteArray) (w : World) (h : DSE w p G D n) (hE : EditsOk D n) (hn : n ≤ 1000000) :
    Calls Tryz.prog 47 #[.pointer (some ⟨p, 0, none⟩), .string call, .slice (some ⟨w.heap.size, 0, none⟩) 1 1] (w.alloc (.cells #[.string path] 9)) fun e w' =>
      e = .returned (.tuple #[.bool (D.edited.step call path ⟨#[]⟩).1, .int .i64 (D.edited.step call path ⟨#[]⟩).2.1]) ∧ DSETo w p G.parts w' (D.edited.step call path ⟨#[]⟩).2.2 (n + 1) := by
  have hlt := h.m.blk.lt
  refine (dstep_any p 1 n (some ⟨w.heap.size, 0, none⟩) G D call [path] (w.alloc (.cells #[.string path] 9)) (h.m.alloc _) h.sb hE hn rfl (by omega) (by intro e; cases e) (fun b hb => ?_) (fun b hb => ?_) (fun W hW => h.tabs W (((Off.refl (p :: G.parts) w).alloc _).trans hW (fun _ _ h => h)))).mono ?_
  · cases hb
    exact cell_one_at (Blk.new w _ _)
  · cases hb
    refine ⟨fun hm => ?_, by simp⟩
    rcases List.mem_cons.1 hm with h1 | h1
    · dsimp only at h1; omega
    · have := h.m.parts.lt h1; dsimp only at this; omega
  · rintro e w' ⟨he, hT⟩
    exact ⟨he, h.to ((Off.refl [] w).alloc _) hT (PDisk.step_ok hE.last _ _ _)⟩
/-- two paths asked for -/
theorem dstep_twoE (p n : Nat) (G : Geo) (D : PDisk) (call path q : ByteArray) (w : World) (h : DSE w p G D n) (hE : EditsOk D n) (hn : n ≤ 1000000) :
    Calls Tryz.prog 47 #[.pointer (some ⟨p, 0, none⟩), .string call, .slice (some ⟨w.heap.size, 0, none⟩) 2 2] (w.alloc (.cells #[.string path, .string q] 9)) fun e w' =>
      e = .returned (.tuple #[.bool (D.edited.step call path q).1, .int .i64 (D.edited.step call path q).2.1]) ∧ DSETo w p G.parts w' (D.edited.step call path q).2.2 (n + 1) := by
  have hlt := h.m.blk.lt
  refine (dstep_any p 2 n (some ⟨w.heap.size, 0, none⟩) G D call [path, q] (w.alloc (.cells #[.string path, .string q] 9)) (h.m.alloc _) h.sb hE hn rfl (by omega) (by intro e; cases e) (fun b hb => ?_) (fun b hb => ?_) (fun W hW => h.tabs W (((Off.refl (p :: G.parts) w).alloc _).trans hW (fun _ _ h => h)))).mono ?_
  · cases hb
    exact cell_two_at (Blk.new w _ _)
  · cases hb
    refine ⟨fun hm => ?_, by simp⟩
    rcases List.mem_cons.1 hm with h1 | h1
    · dsimp only at h1; omega
    · have := h.m.parts.lt h1; dsimp only at this; omega
  · rintro e w' ⟨he, hT⟩
    exact ⟨he, h.to ((Off.refl [] w).alloc _) hT (PDisk.step_ok hE.last _ _ _)⟩
theorem flush_callE (p n : Nat) (G : Geo) (D : PDisk) (w : World) (h : DSE w p G D n) (hE : EditsOk D n) (hn : n ≤ 1000000) :
    Calls Tryz.prog 19 #[.pointer (some ⟨p, 0, none⟩)] w fun e w' => e = .returned (.int .i64 D.edited.flush.1) ∧ DSETo w p G.parts w' D.edited.flush.2 (n + 2) :=
  (dflush_any p n G D w h.m h.sb hE hn h.tabs).mono fun e w' ⟨he, hT⟩ => ⟨he, h.to (Off.refl _ _) hT (PDisk.flush_ok hE.last)⟩
/-- a disk's Tree -/
theorem dtree_callE (p n : Nat) (G : Geo) (D : PDisk) (w : World) (h : DSE w p G D n) (hn : n ≤ 1000000) :
    Calls Tryz.prog 24 #[.pointer (some ⟨p, 0, none⟩)] w fun e w' => ∃ v, e = .returned v ∧ w'.ownsRow w.heap.size 30 4 v D.tree.length (cellsOf D.tree) ∧ Off [] w w' := dtree_any p n G D w h.m h.ok hn
end Go.Proofs.YtgcfkljooabjjaaGreatDoor

/- name.Parent and (*Disk).parent at every length that a string can have: the walks. Conditions: what each contract states. -/
namespace Go.Proofs.YtgcfkljooabjjaaGreatDoor
open Go.RowKit Go.Op Go.Maps

set_option maxRecDepth 100000 in
set_option maxHeartbeats 4000000 in
theorem lastB_big (s : ByteArray) (w : World) (hs : s.size ≤ 9223372036854775807) :
    Calls Tryz.prog 147 #[.string s, .int .u8 47] w fun e w' => e = .returned (.int .i64 (Lib.lastIndexByte s 47)) ∧ w = w' := by
  go_enter Tryz.func147, Tryz.ntmps147
  go_wp2
  go_loop [5] (fun x => ∃ k : Nat, k ≤ s.size ∧ x = .int .i64 ((k : Int) - 1) ∧ Hid (Lib.lastIndexByte s 47 = Lib.lastIdx s 47 k)) (fun x => (intOf x + 1).toNat)
  case atStart => exact ⟨s.size, Nat.le_refl _, by first | rfl | go_num | (congr 1; omega), Lib.hid rfl⟩
  case round =>
    obtain ⟨k, hk, rfl, hh⟩ := hrel
    have hat : ∀ j : Nat, (hj : j < s.size) → s.data[j]! = s[j] := fun j hj => by rw [getElem!_pos s.data j (by simpa using hj)]; rfl
    go_wp2
    · have hc : (((s[k - 1]).toNat : Int) == 47) = true := by assumption
      have k1 : 1 ≤ k := by omega
      have e1 : Lib.lastIdx s 47 k = ((k - 1 : Nat) : Int) := by
        have := Lib.lastIdx_hit s 47 (k - 1) (by rw [hat (k - 1) (by omega)]; simpa using hc)
        rwa [show k - 1 + 1 = k by omega] at this
      have e2 : ((k - 1 : Nat) : Int) = (k : Int) - 1 := by omega
      go_ret
      rw [hh.out, e1, e2]
      exact ⟨rfl, rfl⟩
    · have hc : (((s[k - 1]).toNat : Int) == 47) = false := by assumption
      have k1 : 1 ≤ k := by omega
      have e1 : Lib.lastIdx s 47 k = Lib.lastIdx s 47 (k - 1) := by
        have := Lib.lastIdx_miss s 47 (k - 1) (by rw [hat (k - 1) (by omega)]; simpa using hc)
        rwa [show k - 1 + 1 = k by omega] at this
      refine ⟨⟨k - 1, by omega, by congr 1; omega, Lib.hid (hh.out.trans e1)⟩, ?_⟩
      simp [intOf]; omega
    · have k0 : k = 0 := by omega
      subst k0
      go_ret
      rw [hh.out]
      exact ⟨rfl, rfl⟩
set_option maxRecDepth 100000 in
theorem lastIdx_big (s : ByteArray) (w : World) (hs : s.size ≤ 9223372036854775807) : Calls Tryz.prog 124 #[.string s, .int .u8 47] w fun e w' => e = .returned (.int .i64 (Lib.lastIndexByte s 47)) ∧ w = w' := by
  go_enter Tryz.func124, Tryz.ntmps124
  go_wp2_with fail
  refine (lastB_big s w hs).mono ?_
  rintro e w1 ⟨rfl, rfl⟩
  go_wp2_with fail
  go_ret
  exact ⟨rfl, rfl⟩
set_option maxRecDepth 100000 in
theorem parent_big (s : ByteArray) (w : World) (hs : s.size ≤ 9223372036854775807) (hT : Tabs w) :
    Calls Tryz.prog 89 #[.string s] w fun e w' => e = .returned (.string (bs (parent (str s)))) ∧ Off [] w w' := by
  rcases last_cases s with ⟨h, hn⟩ | ⟨i, h, hi, hc, hn⟩
  · have e1 : bs (parent (str s)) = ⟨#[]⟩ := by
      unfold parent; rw [parts_clean _ hn]; split <;> rfl
    have H := Lib.hid h
    have E := Lib.hid e1
    clear h e1
    go_enter Tryz.func89, Tryz.ntmps89
    go_wp2_with fail
    refine (lastIdx_big s _ hs).mono ?_
    rintro e w1 ⟨rfl, e1⟩
    subst e1
    rw [H.out]
    go_wp2_with fail
    go_ret
    exact ⟨by rw [E.out]; rfl, Off.refl _ _⟩
  · have H := Lib.hid h
    have HC := Lib.hid hc
    clear h hc
    have c1 : (0 : Int) ≤ ↑i := by omega
    have c2 : (↑i : Int) ≤ ↑s.size := by omega
    cases hk : okPath (str s)
    · have e1 : bs (parent (str s)) = ⟨#[]⟩ := by unfold parent; rw [hk]; rfl
      have HK := Lib.hid hk
      have E := Lib.hid e1
      clear hk e1
      go_enter Tryz.func89, Tryz.ntmps89
      go_wp2_with fail
      refine (lastIdx_big s _ (by omega)).mono ?_
      rintro e w1 ⟨rfl, e1⟩
      subst e1
      rw [H.out]
      go_wp2_with fail
      refine (path_any s _ hT).mono ?_
      rintro e w2 ⟨rfl, ho⟩
      rw [HK.out]
      go_wp2_with fail
      go_ret
      exact ⟨by rw [E.out]; rfl, ho⟩
    · have e1 : bs (parent (str s)) = s.extract 0 i := by
        apply str_inj
        unfold parent; rw [hk, str_bs, if_pos rfl, parts_last HC.out hn, List.dropLast_concat, joinP_parts, str_extract]; simp
      have HK := Lib.hid hk
      have E := Lib.hid e1
      clear hk e1
      go_enter Tryz.func89, Tryz.ntmps89
      go_wp2_with fail
      refine (lastIdx_big s _ (by omega)).mono ?_
      rintro e w1 ⟨rfl, e1⟩
      subst e1
      rw [H.out]
      go_wp2_with fail
      refine (path_any s _ hT).mono ?_
      rintro e w2 ⟨rfl, ho⟩
      rw [HK.out]
      go_wp2_with fail
      go_ret
      exact ⟨by rw [E.out]; rfl, ho⟩
theorem dparent_big (p : Nat) (G : Geo) (D : PDisk) (path : ByteArray) (w : World) (hM : DiskM w p G D) (hs : path.size ≤ 9223372036854775807) (hi : ∀ x, lookN D.names x ≤ 4611686018427387904) (hT : Tabs w) :
    Calls Tryz.prog 50 #[.pointer (some ⟨p, 0, none⟩), .string path] w fun e w' => e = .returned (rsn (D.parentE path)) ∧ Off [] w w' := by
  unfold PDisk.parentE rsn
  obtain ⟨v, hv⟩ : ∃ v, D.dir (bs (parent (str path))) = v := ⟨_, rfl⟩
  have HP := Lib.hid (fun (W : World) (h : Off [] w W) => parent_big path W hs (hT.off h))
  have HD := Lib.hid (fun (W : World) (h : Off [] w W) => ddir_v p G D (bs (parent (str path))) W (hM.off h (by simp) (by simp)) (Nat.le_trans (bs_parent_size path) (Nat.le_trans hs (by decide))) (hi _) v hv)
  rw [hv]
  generalize bs (parent (str path)) = u at HP HD
  clear hv hT hM hs hi
  go_enter Tryz.func50, Tryz.ntmps50
  go_wp2_with fail
  have hB := Blk.new w 111 #[.bool false, .int .i64 0]
  have hof := (Off.refl [] w).alloc (.cells #[.bool false, .int .i64 0] 111)
  refine (HP.out _ hof).mono ?_
  rintro e w1 ⟨rfl, ho⟩
  have hB := hB.off ho (by simp)
  have hof := hof.trans_nil ho
  clear ho
  go_wp2_with fail
  refine (HD.out _ hof).mono ?_
  rintro e w2 ⟨rfl, ho⟩
  have hB := hB.off ho (by simp)
  have ho := hof.trans_nil ho
  have hc := hB.cell
  have hf := hB.frozen
  have hl := hB.lt
  clear hof
  go_wp2_with fail
  have hB2 := (hB.set_ 0 (.bool (!v))).set_ 1 (.int .i64 62)
  have ho2 := (ho.setCell (p := ⟨w.heap.size, 0, none⟩) (.inl (Nat.le_refl _)) (.bool (!v))).setCell (p := ⟨w.heap.size, 1, none⟩) (.inl (Nat.le_refl _)) (.int .i64 62)
  have hc2 := hB2.cell
  clear hB hB2 ho hc hf hl
  refine bodyPost_ret (v := .agg #[.bool (!v), .int .i64 62]) ?_ rfl ?_
  · have hres : Tryz.f50.results = #[.cell 4 111] := rfl
    simp only [results, hres]
    go_simp
  · exact ⟨rfl, ho2⟩
end Go.Proofs.YtgcfkljooabjjaaGreatDoor

/- A disk's Sync: the walk. Conditions: what the contract states. -/
namespace Go.Proofs.YtgcfkljooabjjaaGreatDoor
open Go.RowKit Go.Op Go.Maps

/-- a list of reasons that has just been laid -/
theorem rsns_new (w : World) (l : List (Bool × Int)) (cs : Array Value) (h : (rsnCells l).toArray = cs) : RsnsAt (w.alloc (.cells cs 111)) w.heap.size l := by
  subst h
  exact Rsns.at_ (Blk.new w 111 _)
theorem sync_end {w w' : World} {p q n : Nat} {G : Geo} {D : PDisk} {i : Nat} {m : Ino} (h : DSE w p G D n) (hq : G.qs[i]? = some q) (hw : Off [q] w w') (hB : Blk w' q 114 (inoCells m)) (hp : p ≠ q) : DSETo w p G.parts w' { D with inos := D.inos.set i m } n := by
  have hqp : q ∈ G.parts := List.mem_cons_of_mem _ (mem_rest.2 (.inr (.inr (.inr (.inl (List.mem_of_getElem? hq))))))
  have hM : DiskM w' p G { D with inos := D.inos.set i m } := by
    refine ⟨?_, h.m.parts.inoSet hw (fun b hb _ => by simpa using hb) hq hB⟩
    have := h.m.blk.off hw (by simpa using hp)
    unfold diskCells at this ⊢
    simpa using this
  have ho : Off (p :: G.parts) w w' := hw.mono (fun x _ hx => by simp at hx; subst hx; exact List.mem_cons_of_mem _ hqp)
  exact ⟨G, ⟨hM, h.sb, PDisk.set_ok h.ok i m, h.tabs.next ho (fun _ hb => .inl hb)⟩, ho, fun _ hb => .inl hb⟩
set_option maxRecDepth 100000 in
set_option maxHeartbeats 8000000 in
theorem dsync_callE (p n : Nat) (G : Geo) (D : PDisk) (path : ByteArray) (w : World) (h : DSE w p G D n) (hE : EditsOk D n) (hn : n ≤ 1000000) (hs : path.size ≤ 9223372036854775807) :
    Calls Tryz.prog 17 #[.pointer (some ⟨p, 0, none⟩), .string path] w fun e w' => e = .returned (.int .i64 (D.edited.sync path).1) ∧ DSETo w p G.parts w' (D.edited.sync path).2 (n + 2) := by
  have HST := Lib.hid (dstep_oneE p n G D ⟨#[83, 121, 110, 99]⟩ path w h hE hn)
  have HS := Lib.hid (show D.edited.sync path = match D.edited.step ⟨#[83, 121, 110, 99]⟩ path ⟨#[]⟩ with | (full, e, E) => if e ≠ 0 then (e, E) else E.sync_ path from rfl)
  clear h
  generalize D.edited.step ⟨#[83, 121, 110, 99]⟩ path ⟨#[]⟩ = st at HST HS
  obtain ⟨full, er, E⟩ := st
  have HS := Lib.hid (show D.edited.sync path = if er ≠ 0 then (er, E) else E.sync_ path from HS.out)
  go_enter Tryz.func17, Tryz.ntmps17
  go_wp2_with fail
  refine HST.out.mono ?_
  rintro e w1 ⟨rfl, hT⟩
  have HT := Lib.hid hT
  clear hT HST
  by_cases h0 : er = 0
  · subst h0
    have HS2 := Lib.hid (show D.edited.sync path = E.sync_ path by rw [HS.out]; simp)
    obtain ⟨G1, h1, ho1, hp1⟩ := HT.out
    have H1 := Lib.hid h1
    have HOP := Lib.hid (And.intro ho1 hp1)
    clear ho1 hp1
    obtain ⟨x1, hx1⟩ : ∃ x, PDisk.no path = x := ⟨_, rfl⟩
    obtain ⟨x2, hx2⟩ : ∃ x, E.gone path = x := ⟨_, rfl⟩
    have HX := Lib.hid (And.intro hx1 hx2)
    have hno := dno_any path w1 h1.tabs.tabs
    have HGO := Lib.hid (fun (W : World) (ho : Off [] w1 W) => dgone_any p G1 E path W (h1.m.off ho (by simp) (by simp)) (by unfold maxLen; omega) (h1.ok.look (by omega) path))
    rw [hx1] at hno
    rw [hx2] at HGO
    unfold rsn at hno HGO
    have HNO := Lib.hid hno
    clear HS h1 hx1 hx2 hno
    go_wp2_with fail
    refine HNO.out.mono ?_
    rintro e w2 ⟨rfl, ho2⟩
    go_wp2_with fail
    refine (HGO.out _ ho2).mono ?_
    rintro e w3 ⟨rfl, ho3⟩
    have HO3 := Lib.hid (ho2.trans_nil ho3)
    clear HGO HNO ho2 ho3
    go_wp2_with fail
    refine (dfirst_any w3.heap.size 2 2 [x1, x2] _ (rsns_new w3 [x1, x2] _ rfl) rfl (by omega)).mono ?_
    rintro e w4 ⟨rfl, ho4⟩
    have HO4 := Lib.hid ((HO3.out.alloc _).trans_nil ho4)
    clear ho4
    obtain ⟨v, hv⟩ : ∃ v, firstE [x1, x2] = v := ⟨_, rfl⟩
    rw [hv]
    have HV := Lib.hid hv
    clear hv
    have HSY := Lib.hid (show E.sync_ path = if v ≠ 0 then (v, E) else (0, match E.at_ path with | none => E | some n => { E with inos := E.inos.set (lookN E.names path - 1) { n with dirty := false } }) by
      unfold PDisk.sync_
      rw [HX.out.1, HX.out.2, HV.out]
      rfl)
    by_cases hv0 : v = 0
    · subst hv0
      have hat : ∃ m, E.at_ path = some m := by
        cases ha : E.at_ path with
        | some m => exact ⟨m, rfl⟩
        | none =>
          exfalso
          have h2 : E.gone path = (true, 74) := by unfold PDisk.gone; rw [ha]; rfl
          have h3 := HV.out
          rw [← HX.out.1, ← HX.out.2, h2] at h3
          unfold PDisk.no at h3
          simp only [firstE] at h3
          split at h3 <;> simp at h3
      obtain ⟨m, hm⟩ := hat
      have H4 := Lib.hid (H1.out.off HO4.out)
      obtain ⟨q, hq1, hq2, -, hq3, -⟩ := at_some H4.out.m hm
      have HAT := Lib.hid (dat_some p G1 E path w4 H4.out.m (by unfold maxLen; omega) (H4.out.ok.look (by omega) path) q hq1)
      have HQ2 := Lib.hid hq2
      have HQ3 := Lib.hid hq3
      have HF := Lib.hid (show D.edited.sync path = (0, { E with inos := E.inos.set (lookN E.names path - 1) { m with dirty := false } }) by
        rw [HS2.out, HSY.out, hm]; simp)
      clear hm hq1 hq2 hq3 HSY
      go_wp2_with fail
      refine HAT.out.mono ?_
      rintro e w5 ⟨rfl, ho5⟩
      have HO5 := Lib.hid ho5
      have hB5 := HQ2.out.off ho5 (by simp)
      have HB5 := Lib.hid hB5
      have hc := hB5.cell
      have hf := hB5.frozen
      have hl := hB5.lt
      unfold inoCells at hc
      clear ho5 hB5 HAT
      go_wp2_with fail
      go_ret
      rw [HF.out]
      refine ⟨rfl, ?_⟩
      refine DSETo.step ((HOP.out.1.trans_nil HO4.out).trans_nil HO5.out) HOP.out.2 ((sync_end (H4.out.off HO5.out) HQ3.out ((Off.refl [q] w5).setCell (p := ⟨q, 5, none⟩) (.inr (by simp)) _) ?_ ?_).le (by omega))
      · have := HB5.out.set_ 5 (.bool false)
        simpa [inoCells] using this
      · exact Ne.symm (HB5.out.ne_ (H4.out.m.blk.off HO5.out (by simp)) (by decide))
    · have HF := Lib.hid (show D.edited.sync path = (v, E) by rw [HS2.out, HSY.out, if_pos hv0])
      have hne : (v == 0) = false := beq_eq_false_iff_ne.2 hv0
      clear hv0 HSY
      go_wp2_with fail
      go_ret
      rw [HF.out]
      exact ⟨rfl, DSETo.step (HOP.out.1.trans_nil HO4.out) HOP.out.2 ((H1.out.off HO4.out).refl.le (by omega))⟩
  · have HS2 := Lib.hid (show D.edited.sync path = (er, E) by rw [HS.out, if_pos h0])
    have hne : (er == 0) = false := beq_eq_false_iff_ne.2 h0
    clear h0
    go_wp2_with fail
    go_ret
    rw [HS2.out]
    exact ⟨rfl, HT.out.le (by omega)⟩
end Go.Proofs.YtgcfkljooabjjaaGreatDoor

/- A disk's Get: the walk. Conditions: what the contract states. -/
namespace Go.Proofs.YtgcfkljooabjjaaGreatDoor
open Go.RowKit Go.Op Go.Maps

/-- blocks that the call itself has made are written -/
theorem DSETo.own {w W w1 w2 : World} {p n n1 : Nat} {G : Geo} {D D1 : PDisk} {k : List Nat} (h : DSE w p G D n) (hW : Off [] w W) (hT : DSETo W p G.parts w1 D1 n1) (ho : Off k w1 w2) (hk : ∀ b ∈ k, w.heap.size ≤ b ∧ b < W.heap.size) : DSETo w p G.parts w2 D1 n1 := by
  obtain ⟨G1, h1, h2, h3⟩ := hT
  have hp := h.m.blk.lt
  have ho1 : Off (p :: G.parts) w w1 := (hW.mono (fun _ _ h => by simp at h)).trans h2 (fun _ _ h => h)
  have ho2 : Off (p :: G.parts) w w2 := ho1.trans ho (fun x hx hm => by have := (hk x hm).1; omega)
  have hp3 : ∀ b ∈ G1.parts, b ∈ G.parts ∨ w.heap.size ≤ b := fun b hb => by
    rcases h3 b hb with h | h
    · exact .inl h
    · exact .inr (Nat.le_trans hW.size h)
  refine ⟨G1, ⟨h1.m.off ho (fun hm => by have := (hk p hm).1; omega) (fun b hb hm => ?_), h1.sb, h1.ok, h.tabs.next ho2 hp3⟩, ho2, hp3⟩
  have h4 := hk b hm
  rcases h3 b hb with h5 | h5
  · have := h.m.parts.lt h5; omega
  · omega
theorem put7 {w : World} {gn gs : Nat} {c0 c1 c2 c3 d0 d1 d2 a b c d x y z : Value} (hn : Blk w gn 30 #[c0, c1, c2, c3]) (hs : Blk w gs 39 #[d0, d1, d2]) :
    Blk (((((((w.setCell ⟨gn, 0, none⟩ a).setCell ⟨gn, 1, none⟩ b).setCell ⟨gn, 2, none⟩ c).setCell ⟨gn, 3, none⟩ d).setCell ⟨gs, 0, none⟩ x).setCell ⟨gs, 1, none⟩ y).setCell ⟨gs, 2, none⟩ z) gn 30 #[a, b, c, d] ∧
    Blk (((((((w.setCell ⟨gn, 0, none⟩ a).setCell ⟨gn, 1, none⟩ b).setCell ⟨gn, 2, none⟩ c).setCell ⟨gn, 3, none⟩ d).setCell ⟨gs, 0, none⟩ x).setCell ⟨gs, 1, none⟩ y).setCell ⟨gs, 2, none⟩ z) gs 39 #[x, y, z] ∧
    Off [gn, gs] w (((((((w.setCell ⟨gn, 0, none⟩ a).setCell ⟨gn, 1, none⟩ b).setCell ⟨gn, 2, none⟩ c).setCell ⟨gn, 3, none⟩ d).setCell ⟨gs, 0, none⟩ x).setCell ⟨gs, 1, none⟩ y).setCell ⟨gs, 2, none⟩ z) := by
  have hne : gn ≠ gs := hn.ne_ hs (by decide)
  refine ⟨?_, ?_, ?_⟩
  · have := (((((((hn.set_ 0 a).set_ 1 b).set_ 2 c).set_ 3 d).far (p := ⟨gs, 0, none⟩) hne x).far (p := ⟨gs, 1, none⟩) hne y).far (p := ⟨gs, 2, none⟩) hne z)
    simpa using this
  · have := (((((((hs.far (p := ⟨gn, 0, none⟩) (Ne.symm hne) a).far (p := ⟨gn, 1, none⟩) (Ne.symm hne) b).far (p := ⟨gn, 2, none⟩) (Ne.symm hne) c).far (p := ⟨gn, 3, none⟩) (Ne.symm hne) d).set_ 0 x).set_ 1 y).set_ 2 z)
    simpa using this
  · exact (((((((Off.refl [gn, gs] w).setCell (.inr (by simp)) _).setCell (.inr (by simp)) _).setCell (.inr (by simp)) _).setCell (.inr (by simp)) _).setCell (.inr (by simp)) _).setCell (.inr (by simp)) _).setCell (.inr (by simp)) _
/-- what a Get hands back -/
def getVal (r : Int × Node × Int × Int × Int) : Value := .tuple #[.agg #[.string r.2.1.path, .int .i64 r.2.1.kind, .string r.2.1.data, .int .i64 r.2.1.mode], .agg #[.int .i64 r.2.2.1, .int .i64 r.2.2.2.1, .int .i64 r.2.2.2.2], .int .i64 r.1]
set_option maxRecDepth 100000 in
set_option maxHeartbeats 8000000 in
theorem dget_callE (p n : Nat) (G : Geo) (D : PDisk) (path : ByteArray) (w : World) (h : DSE w p G D n) (hE : EditsOk D n) (hn : n ≤ 1000000) (hs : path.size ≤ 9223372036854775807) :
    Calls Tryz.prog 20 #[.pointer (some ⟨p, 0, none⟩), .string path] w fun e w' => e = .returned (getVal (D.edited.get path).1) ∧ DSETo w p G.parts w' (D.edited.get path).2 (n + 1) := by
  have H := Lib.hid h
  have HS := Lib.hid (show D.edited.get path = match D.edited.step ⟨#[71, 101, 116]⟩ path ⟨#[]⟩ with | (_, e, E) => if e ≠ 0 then ((e, ⟨⟨#[]⟩, 0, ⟨#[]⟩, 0⟩, 0, 0, 0), E) else (E.get_ path, E) from rfl)
  have HSTEP := Lib.hid (fun (W : World) (ho : Off [] w W) => dstep_oneE p n G D ⟨#[71, 101, 116]⟩ path W (h.off ho) hE hn)
  clear h
  generalize D.edited.step ⟨#[71, 101, 116]⟩ path ⟨#[]⟩ = st at HS HSTEP
  obtain ⟨full, er, E⟩ := st
  have HS := Lib.hid (show D.edited.get path = if er ≠ 0 then ((er, ⟨⟨#[]⟩, 0, ⟨#[]⟩, 0⟩, 0, 0, 0), E) else (E.get_ path, E) from HS.out)
  go_enter Tryz.func20, Tryz.ntmps20
  go_upto_region 1 with fail
  refine code_gen (fun W => Blk W w.heap.size 30 #[.string ⟨#[]⟩, .int .i64 0, .string ⟨#[]⟩, .int .i64 0] ∧ Blk W (w.heap.size + 1) 39 #[.int .i64 0, .int .i64 0, .int .i64 0] ∧ Off [] w W ∧ w.heap.size + 1 < W.heap.size)
    ⟨(Blk.new w _ _).alloc _, Blk.new1 w _ _ _, ((Off.refl _ _).alloc _).alloc _, by simp⟩ ?_
  rintro W ⟨hbn, hbs, hof, hsz⟩
  have HBN := Lib.hid hbn
  have HBS := Lib.hid hbs
  have HOF := Lib.hid hof
  have HSZ := Lib.hid hsz
  clear hbn hbs hof hsz
  go_wp2_with fail
  refine (HSTEP.out W HOF.out).mono ?_
  rintro e w1 ⟨rfl, hT⟩
  have HT := Lib.hid hT
  obtain ⟨G1, h1, ho1, hp1⟩ := hT
  have hno : ∀ b, w.heap.size ≤ b → b < W.heap.size → b ∉ p :: G.parts := fun b hb _ hm => by
    rcases List.mem_cons.1 hm with rfl | hm
    · have := H.out.m.blk.lt; omega
    · have := H.out.m.parts.lt hm; omega
  have hbn1 := HBN.out.off ho1 (hno _ (Nat.le_refl _) (by have := HSZ.out; omega))
  have hbs1 := HBS.out.off ho1 (hno _ (by omega) HSZ.out)
  have HBN1 := Lib.hid hbn1
  have HBS1 := Lib.hid hbs1
  have H1 := Lib.hid h1
  have HOP := Lib.hid (And.intro ho1 hp1)
  have HKK := Lib.hid (show ∀ b ∈ [w.heap.size, w.heap.size + 1], w.heap.size ≤ b ∧ b < W.heap.size from fun b hb => by
    have := HSZ.out
    simp at hb
    omega)
  clear h1 ho1 hp1 hno HSTEP
  have hcn := hbn1.cell
  have hfn := hbn1.frozen
  have hln := hbn1.lt
  have hcs := hbs1.cell
  have hfs := hbs1.frozen
  have hls := hbs1.lt
  clear hbn1 hbs1
  by_cases h0 : er = 0
  · subst h0
    have HS2 := Lib.hid (show D.edited.get path = (E.get_ path, E) by rw [HS.out]; simp)
    by_cases hp : path = ⟨#[]⟩
    · subst hp
      have HS3 := Lib.hid (show D.edited.get ⟨#[]⟩ = ((0, ⟨⟨#[]⟩, 2, ⟨#[]⟩, 0⟩, 0, 0, 0), E) by rw [HS2.out]; unfold PDisk.get_; rw [if_pos rfl])
      clear HS
      go_wp2_with fail
      obtain ⟨k1, k2, k3⟩ := put7 (a := .string ⟨#[]⟩) (b := .int .i64 2) (c := .string ⟨#[]⟩) (d := .int .i64 0) (x := .int .i64 0) (y := .int .i64 0) (z := .int .i64 0) HBN1.out HBS1.out
      have hc1 := k1.cell
      have hc2 := k2.cell
      have K3 := Lib.hid k3
      clear k1 k2 k3 hcn hfn hln hcs hfs hls
      refine bodyPost_ret (v := .tuple #[.agg #[.string ⟨#[]⟩, .int .i64 2, .string ⟨#[]⟩, .int .i64 0], .agg #[.int .i64 0, .int .i64 0, .int .i64 0], .int .i64 0]) ?_ rfl ?_
      · have hres : Tryz.f20.results = #[.cell 4 30, .cell 5 39, .tmp 6] := rfl
        simp only [results, hres]
        go_simp
      · rw [HS3.out]
        exact ⟨rfl, DSETo.own H.out HOF.out HT.out K3.out HKK.out⟩
    · obtain ⟨hpe1, hpe2⟩ := emp_ne hp
      obtain ⟨x1, hx1⟩ : ∃ x, PDisk.no path = x := ⟨_, rfl⟩
      obtain ⟨x2, hx2⟩ : ∃ x, E.gone path = x := ⟨_, rfl⟩
      have HX := Lib.hid (And.intro hx1 hx2)
      have hno := dno_any path w1 H1.out.tabs.tabs
      have HGO := Lib.hid (fun (W : World) (ho : Off [] w1 W) => dgone_any p G1 E path W (H1.out.m.off ho (by simp) (by simp)) (by unfold maxLen; omega) (H1.out.ok.look (by omega) path))
      rw [hx1] at hno
      rw [hx2] at HGO
      unfold rsn at hno HGO
      have HNO := Lib.hid hno
      clear HS hx1 hx2 hno hcn hfn hln hcs hfs hls
      go_wp2_with fail
      refine HNO.out.mono ?_
      rintro e w2 ⟨rfl, ho2⟩
      go_wp2_with fail
      refine (HGO.out _ ho2).mono ?_
      rintro e w3 ⟨rfl, ho3⟩
      have HO3 := Lib.hid (ho2.trans_nil ho3)
      clear HGO HNO ho2 ho3
      go_wp2_with fail
      refine (dfirst_any w3.heap.size 2 2 [x1, x2] _ (rsns_new w3 [x1, x2] _ rfl) rfl (by omega)).mono ?_
      rintro e w4 ⟨rfl, ho4⟩
      have HO4 := Lib.hid ((HO3.out.alloc _).trans_nil ho4)
      clear ho4
      obtain ⟨v, hv⟩ : ∃ v, firstE [x1, x2] = v := ⟨_, rfl⟩
      rw [hv]
      have HV := Lib.hid hv
      clear hv
      have HGE := Lib.hid (show E.get_ path = if v ≠ 0 then (v, ⟨⟨#[]⟩, 0, ⟨#[]⟩, 0⟩, 0, 0, 0) else match E.at_ path with | none => (0, ⟨⟨#[]⟩, 0, ⟨#[]⟩, 0⟩, 0, 0, 0) | some n => (0, { n.node with path := path }, (lookN E.names path : Int), (n.node.data.size : Int), n.time) by
        unfold PDisk.get_
        rw [if_neg hp, HX.out.1, HX.out.2, HV.out]
        rfl)
      have HBN4 := Lib.hid (HBN1.out.off HO4.out (by simp))
      have HBS4 := Lib.hid (HBS1.out.off HO4.out (by simp))
      have hcn := HBN4.out.cell
      have hfn := HBN4.out.frozen
      have hln := HBN4.out.lt
      have hcs := HBS4.out.cell
      have hfs := HBS4.out.frozen
      have hls := HBS4.out.lt
      by_cases hv0 : v = 0
      · subst hv0
        have hat : ∃ m, E.at_ path = some m := by
          cases ha : E.at_ path with
          | some m => exact ⟨m, rfl⟩
          | none =>
            exfalso
            have h2 : E.gone path = (true, 74) := by unfold PDisk.gone; rw [ha]; rfl
            have h3 := HV.out
            rw [← HX.out.1, ← HX.out.2, h2] at h3
            unfold PDisk.no at h3
            simp only [firstE] at h3
            split at h3 <;> simp at h3
        obtain ⟨m, hm⟩ := hat
        have H4 := Lib.hid (H1.out.off HO4.out)
        obtain ⟨q, hq1, hq2, -, -, -⟩ := at_some H4.out.m hm
        have HAT := Lib.hid (dat_some p G1 E path w4 H4.out.m (by unfold maxLen; omega) (H4.out.ok.look (by omega) path) q hq1)
        have HQ2 := Lib.hid hq2
        have HF := Lib.hid (show D.edited.get path = ((0, { m.node with path := path }, (lookN E.names path : Int), (m.node.data.size : Int), m.time), E) by
          rw [HS2.out, HGE.out, hm]; simp)
        clear hm hq1 hq2 HGE hcn hfn hln hcs hfs hls
        go_wp2_with fail
        refine HAT.out.mono ?_
        rintro e w5 ⟨rfl, ho5⟩
        have HO5 := Lib.hid ho5
        have hB5 := HQ2.out.off ho5 (by simp)
        have hc := hB5.cell
        have hf := hB5.frozen
        have hl := hB5.lt
        unfold inoCells at hc
        clear ho5 hB5 HAT
        go_upto_region 11 with fail
        refine code_gen (fun W6 => Blk W6 w5.heap.size 114 #[.string path, .int .i64 m.node.kind, .string m.node.data, .int .i64 m.node.mode, .int .i64 m.time, .bool m.dirty] ∧ Off [] w5 W6) ⟨Blk.new w5 _ _, (Off.refl _ _).alloc _⟩ ?_
        clear hc hf hl
        rintro W6 ⟨hb6, ho6⟩
        have HO6 := Lib.hid ((HO4.out.trans_nil HO5.out).trans_nil ho6)
        have H6 := H1.out.off HO6.out
        have HBN6 := Lib.hid (HBN1.out.off HO6.out (by simp))
        have HBS6 := Lib.hid (HBS1.out.off HO6.out (by simp))
        have hL : (Instr.lookup 95 (.map (some G1.nb)) (.string path) false).run Tryz.prog W6.drew = .ok (.int .i64 (lookN E.names path)) W6.drew := (H6.m.drew).parts.names.look path (by unfold maxLen; omega)
        have hgn : w.heap.size ∉ G1.parts := fun hm => by
          rcases HOP.out.2 _ hm with h5 | h5
          · have := H.out.m.parts.lt h5; omega
          · have := HSZ.out; omega
        have hL2 : (Instr.lookup 95 (.map (some G1.nb)) (.string path) false).run Tryz.prog ((((W6.setCell ⟨w.heap.size, 0, none⟩ (.string path)).setCell ⟨w.heap.size, 1, none⟩ (.int .i64 m.node.kind)).setCell ⟨w.heap.size, 2, none⟩ (.string m.node.data)).setCell ⟨w.heap.size, 3, none⟩ (.int .i64 m.node.mode)).drew = .ok (.int .i64 (lookN E.names path)) ((((W6.setCell ⟨w.heap.size, 0, none⟩ (.string path)).setCell ⟨w.heap.size, 1, none⟩ (.int .i64 m.node.kind)).setCell ⟨w.heap.size, 2, none⟩ (.string m.node.data)).setCell ⟨w.heap.size, 3, none⟩ (.int .i64 m.node.mode)).drew :=
          NMat.look ((H6.m.parts.names.off (k := [w.heap.size]) (((((Off.refl _ W6).setCell (.inr (by simp)) _).setCell (.inr (by simp)) _).setCell (.inr (by simp)) _).setCell (.inr (by simp)) _).drew (by simp; intro e; exact hgn (by rw [← e]; exact List.mem_cons_self ..)))) path (by unfold maxLen; omega)
        have hne1 : p ≠ w.heap.size := by have := H.out.m.blk.lt; omega
        have hne2 : p ≠ w.heap.size + 1 := by have := H.out.m.blk.lt; omega
        have hne3 : w5.heap.size ≠ w.heap.size := by have := HO6.out.size; have := HBN1.out.lt; have := (HO4.out.trans_nil HO5.out).size; omega
        have hne4 : w5.heap.size ≠ w.heap.size + 1 := by have := HBS1.out.lt; have := (HO4.out.trans_nil HO5.out).size; omega
        have hc := hb6.cell
        have hf := hb6.frozen
        have hl := hb6.lt
        have hcd := H6.m.blk.cell
        unfold diskCells at hcd
        have hcn := HBN6.out.cell
        have hfn := HBN6.out.frozen
        have hln := HBN6.out.lt
        have hcs := HBS6.out.cell
        have hfs := HBS6.out.frozen
        have hls := HBS6.out.lt
        clear hb6 ho6 H6
        generalize hIX : (lookN E.names path : Int) = ix at hL hL2 HF
        clear hgn
        go_region
        obtain ⟨k1, k2, k3⟩ := put7 (a := .string path) (b := .int .i64 m.node.kind) (c := .string m.node.data) (d := .int .i64 m.node.mode) (x := .int .i64 ix) (y := .int .i64 m.node.data.size) (z := .int .i64 m.time) HBN6.out HBS6.out
        have hc1 := k1.drew.cell
        have hc2 := k2.drew.cell
        have hl1 := k1.drew.lt
        have K3 := Lib.hid k3.drew
        clear k1 k2 k3 hcn hfn hln hcs hfs hls hc hf hl hcd hL hL2
        go_wp2_with fail
        refine bodyPost_ret (v := .tuple #[.agg #[.string path, .int .i64 m.node.kind, .string m.node.data, .int .i64 m.node.mode], .agg #[.int .i64 ix, .int .i64 m.node.data.size, .int .i64 m.time], .int .i64 0]) ?_ rfl ?_
        · have hres : Tryz.f20.results = #[.cell 4 30, .cell 5 39, .tmp 6] := rfl
          simp only [results, hres]
          go_simp
        · rw [HF.out]
          exact ⟨rfl, DSETo.own H.out HOF.out (HT.out.off HO6.out) K3.out HKK.out⟩
      · have HF := Lib.hid (show D.edited.get path = ((v, ⟨⟨#[]⟩, 0, ⟨#[]⟩, 0⟩, 0, 0, 0), E) by rw [HS2.out, HGE.out, if_pos hv0])
        have hne : (v == 0) = false := beq_eq_false_iff_ne.2 hv0
        clear hv0 HGE
        go_wp2_with fail
        obtain ⟨k1, k2, k3⟩ := put7 (a := .string ⟨#[]⟩) (b := .int .i64 0) (c := .string ⟨#[]⟩) (d := .int .i64 0) (x := .int .i64 0) (y := .int .i64 0) (z := .int .i64 0) HBN4.out HBS4.out
        have hc1 := k1.cell
        have hc2 := k2.cell
        have K3 := Lib.hid k3
        clear k1 k2 k3 hcn hfn hln hcs hfs hls
        refine bodyPost_ret (v := .tuple #[.agg #[.string ⟨#[]⟩, .int .i64 0, .string ⟨#[]⟩, .int .i64 0], .agg #[.int .i64 0, .int .i64 0, .int .i64 0], .int .i64 v]) ?_ rfl ?_
        · have hres : Tryz.f20.results = #[.cell 4 30, .cell 5 39, .tmp 6] := rfl
          simp only [results, hres]
          go_simp
        · rw [HF.out]
          exact ⟨rfl, DSETo.own H.out HOF.out (HT.out.off HO4.out) K3.out HKK.out⟩
  · have HS2 := Lib.hid (show D.edited.get path = ((er, ⟨⟨#[]⟩, 0, ⟨#[]⟩, 0⟩, 0, 0, 0), E) by rw [HS.out, if_pos h0])
    have hne : (er == 0) = false := beq_eq_false_iff_ne.2 h0
    clear h0
    go_wp2_with fail
    obtain ⟨k1, k2, k3⟩ := put7 (a := .string ⟨#[]⟩) (b := .int .i64 0) (c := .string ⟨#[]⟩) (d := .int .i64 0) (x := .int .i64 0) (y := .int .i64 0) (z := .int .i64 0) HBN1.out HBS1.out
    have hc1 := k1.cell
    have hc2 := k2.cell
    have K3 := Lib.hid k3
    clear k1 k2 k3 hcn hfn hln hcs hfs hls
    refine bodyPost_ret (v := .tuple #[.agg #[.string ⟨#[]⟩, .int .i64 0, .string ⟨#[]⟩, .int .i64 0], .agg #[.int .i64 0, .int .i64 0, .int .i64 0], .int .i64 er]) ?_ rfl ?_
    · have hres : Tryz.f20.results = #[.cell 4 30, .cell 5 39, .tmp 6] := rfl
      simp only [results, hres]
      go_simp
    · rw [HS2.out]
      exact ⟨rfl, DSETo.own H.out HOF.out HT.out K3.out HKK.out⟩
end Go.Proofs.YtgcfkljooabjjaaGreatDoor

/- A disk's Write: the walk. Conditions: what the contract states. -/
namespace Go.Proofs.YtgcfkljooabjjaaGreatDoor
open Go.RowKit Go.Op Go.Maps

/-- an inode is written whole -/
theorem put6 {w : World} {q : Nat} {c0 c1 c2 c3 c4 c5 a b c d x y : Value} (hq : Blk w q 114 #[c0, c1, c2, c3, c4, c5]) :
    Blk ((((((w.setCell ⟨q, 0, none⟩ a).setCell ⟨q, 1, none⟩ b).setCell ⟨q, 2, none⟩ c).setCell ⟨q, 3, none⟩ d).setCell ⟨q, 4, none⟩ x).setCell ⟨q, 5, none⟩ y) q 114 #[a, b, c, d, x, y] ∧
    Off [q] w ((((((w.setCell ⟨q, 0, none⟩ a).setCell ⟨q, 1, none⟩ b).setCell ⟨q, 2, none⟩ c).setCell ⟨q, 3, none⟩ d).setCell ⟨q, 4, none⟩ x).setCell ⟨q, 5, none⟩ y) := by
  refine ⟨?_, ?_⟩
  · have := (((((hq.set_ 0 a).set_ 1 b).set_ 2 c).set_ 3 d).set_ 4 x).set_ 5 y
    simpa using this
  · exact ((((((Off.refl [q] w).setCell (.inr (by simp)) _).setCell (.inr (by simp)) _).setCell (.inr (by simp)) _).setCell (.inr (by simp)) _).setCell (.inr (by simp)) _).setCell (.inr (by simp)) _
theorem rsns_blk (w : World) (l : List (Bool × Int)) (cs : Array Value) (h : (rsnCells l).toArray = cs) : Rsns (w.alloc (.cells cs 111)) w.heap.size l := by
  subst h
  exact Blk.new w 111 _
set_option maxRecDepth 100000 in
set_option maxHeartbeats 16000000 in
theorem dwrite_callE (p n : Nat) (G : Geo) (D : PDisk) (path data : ByteArray) (mode : Int) (w : World) (h : DSE w p G D n) (hE : EditsOk D n) (hn : n ≤ 1000000) (hs : path.size ≤ 9223372036854775807) :
    Calls Tryz.prog 16 #[.pointer (some ⟨p, 0, none⟩), .string path, .string data, .int .i64 mode] w fun e w' => e = .returned (.int .i64 (D.edited.write path data mode).1) ∧ DSETo w p G.parts w' (D.edited.write path data mode).2 (n + 2) := by
  obtain ⟨i0, hi0, hz0, hz1, hz2⟩ := info_parts infoRsn
  have HST := Lib.hid (dstep_oneE p n G D ⟨#[87, 114, 105, 116, 101]⟩ path w h hE hn)
  have HS := Lib.hid (show D.edited.write path data mode = match D.edited.step ⟨#[87, 114, 105, 116, 101]⟩ path ⟨#[]⟩ with | (full, e, E) => if e ≠ 0 then (e, E) else E.write_ full path data mode from rfl)
  clear h
  generalize D.edited.step ⟨#[87, 114, 105, 116, 101]⟩ path ⟨#[]⟩ = st at HST HS
  obtain ⟨full, er, E⟩ := st
  have HS := Lib.hid (show D.edited.write path data mode = if er ≠ 0 then (er, E) else E.write_ full path data mode from HS.out)
  go_enter Tryz.func16, Tryz.ntmps16
  go_wp2_with fail
  refine HST.out.mono ?_
  rintro e w1 ⟨rfl, hT⟩
  have HT := Lib.hid hT
  clear hT HST
  by_cases h0 : er = 0
  · subst h0
    have HS2 := Lib.hid (show D.edited.write path data mode = E.write_ full path data mode by rw [HS.out]; simp)
    obtain ⟨G1, h1, ho1, hp1⟩ := HT.out
    have HOP := Lib.hid (And.intro ho1 hp1)
    obtain ⟨x1, hx1⟩ : ∃ x, PDisk.no path = x := ⟨_, rfl⟩
    obtain ⟨x3, hx3⟩ : ∃ x, E.parentE path = x := ⟨_, rfl⟩
    obtain ⟨b2, hb2⟩ : ∃ b, (decide (65536 < data.size) || decide (mode < 0) || decide (511 < mode)) = b := ⟨_, rfl⟩
    have HX := Lib.hid (And.intro hx1 hx3)
    have HB2 := Lib.hid hb2
    have HNO := Lib.hid (fun (W : World) (ho : Off [] w1 W) => dno_any path W (h1.tabs.off ho))
    have HPA := Lib.hid (fun (W : World) (ho : Off [] w1 W) => dparent_big p G1 E path W (h1.m.off ho (by simp) (by simp)) hs (fun x => h1.ok.look (by omega) x) (h1.tabs.off ho))
    have H1 := Lib.hid h1
    rw [hx1] at HNO
    rw [hx3] at HPA
    unfold rsn at HNO HPA
    clear HS hx1 hx3 hb2 h1 ho1 hp1
    go_upto_region 5 with fail
    refine code_gen (fun W => Blk W w1.heap.size 30 #[.string ⟨#[]⟩, .int .i64 1, .string data, .int .i64 mode] ∧ Off [] w1 W) ⟨Blk.new w1 _ _, (Off.refl _ _).alloc _⟩ ?_
    rintro W ⟨hbn, hof⟩
    have HBN := Lib.hid hbn
    have HOF := Lib.hid hof
    have HW := H1.out.off hof
    have HDW := Lib.hid HW
    cases ha : E.at_ path with
    | none =>
      have HAT := Lib.hid (dat_none p G1 E path W HW.m (by unfold maxLen; omega) (HW.ok.look (by omega) path) ha)
      have HWR := Lib.hid (show D.edited.write path data mode = E.lay path ⟨⟨#[]⟩, 1, data, mode⟩ full [x1, (b2, 2), x3, (false, 73)] by
        rw [HS2.out]; unfold PDisk.write_; rw [ha, HX.out.1, HX.out.2, HB2.out])
      clear hbn hof HW ha
      go_wp2_with fail
      refine HAT.out.mono ?_
      rintro e w2 ⟨rfl, ho2⟩
      have HO2 := Lib.hid (HOF.out.trans_nil ho2)
      have HOW := Lib.hid ho2
      clear ho2 HAT
      go_upto_region 6 with fail
      go_cut [13] from 31 to 59 (fun s wx => ∃ g, s = .slice (some ⟨g, 0, none⟩) 4 4 ∧ Rsns wx g [x1, (b2, 2), x3, (false, 73)] ∧ Off [] w2 wx)
      case first =>
        by_cases hA : 65536 < data.size
        · have hA1 : (65536 : Int) < data.size := by omega
          have hb2 : b2 = true := by rw [← HB2.out]; simp [hA]
          subst hb2
          clear HB2 hA
          go_wp2_with fail
          refine (HNO.out _ HO2.out).mono ?_
          rintro e wa ⟨rfl, hoa⟩
          go_wp2_with fail
          refine (HPA.out _ (HO2.out.trans_nil hoa)).mono ?_
          rintro e wb ⟨rfl, hob⟩
          have hab := (hoa.trans_nil hob).alloc (.cells (rsnCells [x1, (true, 2), x3, (false, 73)]).toArray 111)
          clear hoa hob
          go_wp2_with fail
          go_meet
          exact ⟨wb.heap.size, rfl, rsns_blk wb [x1, (true, 2), x3, (false, 73)] _ rfl, hab⟩
        · have hA1 : ¬ (65536 : Int) < data.size := by omega
          by_cases hB : mode < 0
          · have hB1 := hB
            have hb2 : b2 = true := by rw [← HB2.out]; simp [hA, hB]
            subst hb2
            clear HB2 hA hB
            go_wp2_with fail
            refine (HNO.out _ HO2.out).mono ?_
            rintro e wa ⟨rfl, hoa⟩
            go_wp2_with fail
            refine (HPA.out _ (HO2.out.trans_nil hoa)).mono ?_
            rintro e wb ⟨rfl, hob⟩
            have hab := (hoa.trans_nil hob).alloc (.cells (rsnCells [x1, (true, 2), x3, (false, 73)]).toArray 111)
            clear hoa hob
            go_wp2_with fail
            go_meet
            exact ⟨wb.heap.size, rfl, rsns_blk wb [x1, (true, 2), x3, (false, 73)] _ rfl, hab⟩
          · have hB1 := hB
            by_cases hC : 511 < mode
            · have hC1 := hC
              have hb2 : b2 = true := by rw [← HB2.out]; simp [hA, hB, hC]
              subst hb2
              clear HB2 hA hB hC
              go_wp2_with fail
              refine (HNO.out _ HO2.out).mono ?_
              rintro e wa ⟨rfl, hoa⟩
              go_wp2_with fail
              refine (HPA.out _ (HO2.out.trans_nil hoa)).mono ?_
              rintro e wb ⟨rfl, hob⟩
              have hab := (hoa.trans_nil hob).alloc (.cells (rsnCells [x1, (true, 2), x3, (false, 73)]).toArray 111)
              clear hoa hob
              go_wp2_with fail
              go_meet
              exact ⟨wb.heap.size, rfl, rsns_blk wb [x1, (true, 2), x3, (false, 73)] _ rfl, hab⟩
            · have hC1 := hC
              have hb2 : b2 = false := by rw [← HB2.out]; simp [hA, hB, hC]
              subst hb2
              clear HB2 hA hB hC
              go_wp2_with fail
              refine (HNO.out _ HO2.out).mono ?_
              rintro e wa ⟨rfl, hoa⟩
              go_wp2_with fail
              refine (HPA.out _ (HO2.out.trans_nil hoa)).mono ?_
              rintro e wb ⟨rfl, hob⟩
              have hab := (hoa.trans_nil hob).alloc (.cells (rsnCells [x1, (false, 2), x3, (false, 73)]).toArray 111)
              clear hoa hob
              go_wp2_with fail
              go_meet
              rw [show (decide ((65536 : Int) < data.size) || decide (mode < 0) || decide (511 < mode)) = false from by simp only [Bool.or_eq_false_iff, decide_eq_false_iff_not]; omega]
              exact ⟨wb.heap.size, rfl, rsns_blk wb [x1, (false, 2), x3, (false, 73)] _ rfl, hab⟩
      case rest =>
        obtain ⟨g, rfl, hR, hox⟩ := hcut
        have HR := Lib.hid hR
        have HX2 := Lib.hid (HO2.out.trans_nil hox)
        have hbn := (HBN.out.off HOW.out (by simp)).off hox (by simp)
        have hcn := hbn.cell
        have hln := hbn.lt
        have HD2 := Lib.hid (H1.out.off HX2.out)
        clear hR hox hbn
        go_wp2_with fail
        refine (dlay_any p g 4 G1 E path ⟨⟨#[]⟩, 1, data, mode⟩ full [x1, (b2, 2), x3, (false, 73)] wc HD2.out.m HD2.out.sb HR.out rfl (by omega) (by have := HD2.out.ok.inos; omega) (by have := HD2.out.ok.nlen; omega) (by have := HD2.out.ok.llen; omega) (by unfold maxLen; omega)).mono ?_
        rintro e w5 ⟨rfl, hL⟩
        have HL := Lib.hid hL
        clear hL hcn hln
        go_wp2_with fail
        go_ret
        rw [HWR.out]
        refine ⟨rfl, DSETo.step (HOP.out.1.trans_nil HX2.out) HOP.out.2 (HD2.out.to (Off.refl _ _) HL.out ?_)⟩
        rw [← HX.out.1, ← HX.out.2]
        exact PDisk.lay_ok HD2.out.ok path _ full _ (by intro x hx; simp only [List.mem_cons, List.not_mem_nil, or_false] at hx; rcases hx with rfl | rfl | rfl | rfl <;> simp [PDisk.no, PDisk.parentE]) (by simp)
    | some m =>
      obtain ⟨q, hq1, hq2, -, hq3, -⟩ := at_some HW.m ha
      have HAT := Lib.hid (dat_some p G1 E path W HW.m (by unfold maxLen; omega) (HW.ok.look (by omega) path) q hq1)
      have HQ3 := Lib.hid hq3
      have hb4 : (!decide (m.node.kind = 1)) = (m.node.kind != 1) := by
        by_cases hk : m.node.kind = 1
        · rw [hk]; rfl
        · rw [decide_eq_false hk, bne_iff_ne.2 hk]; rfl
      have HWR := Lib.hid (show D.edited.write path data mode = if firstE [x1, (b2, 2), x3, (m.node.kind != 1, 73), (full, 71)] ≠ 0 then (firstE [x1, (b2, 2), x3, (m.node.kind != 1, 73), (full, 71)], E) else (0, { E with inos := E.inos.set (lookN E.names path - 1) ⟨⟨⟨#[]⟩, 1, data, mode⟩, E.clock, true⟩ }) by
        rw [HS2.out]; unfold PDisk.write_; rw [ha, HX.out.1, HX.out.2, HB2.out]
        dsimp only
        rw [hb4]
        rfl)
      have HQW := Lib.hid hq2
      clear hbn hof HW ha hq1 hq2 hq3 hb4
      go_wp2_with fail
      refine HAT.out.mono ?_
      rintro e w2 ⟨rfl, ho2⟩
      have HO2 := Lib.hid (HOF.out.trans_nil ho2)
      have HOW := Lib.hid ho2
      have HQ := Lib.hid (HQW.out.off ho2 (by simp))
      clear ho2 HAT
      go_upto_region 6 with fail
      go_cut [13] from 31 to 59 (fun s wx => ∃ g, s = .slice (some ⟨g, 0, none⟩) 4 4 ∧ Rsns wx g [x1, (b2, 2), x3, (m.node.kind != 1, 73)] ∧ Off [] w2 wx)
      case first =>
        by_cases hA : 65536 < data.size
        · have hA1 : (65536 : Int) < data.size := by omega
          have hb2 : b2 = true := by rw [← HB2.out]; simp [hA]
          subst hb2
          clear HB2 hA
          go_wp2_with fail
          refine (HNO.out _ HO2.out).mono ?_
          rintro e wa ⟨rfl, hoa⟩
          go_wp2_with fail
          refine (HPA.out _ (HO2.out.trans_nil hoa)).mono ?_
          rintro e wb ⟨rfl, hob⟩
          have hbq := (HQ.out.off hoa (by simp)).off hob (by simp)
          have hcq := hbq.cell
          have hlq := hbq.lt
          unfold inoCells at hcq
          clear hbq
          have hab := (hoa.trans_nil hob).alloc (.cells (rsnCells [x1, (true, 2), x3, (m.node.kind != 1, 73)]).toArray 111)
          clear hoa hob
          go_wp2_with fail
          go_meet
          exact ⟨wb.heap.size, rfl, rsns_blk wb [x1, (true, 2), x3, (m.node.kind != 1, 73)] _ rfl, hab⟩
        · have hA1 : ¬ (65536 : Int) < data.size := by omega
          by_cases hB : mode < 0
          · have hB1 := hB
            have hb2 : b2 = true := by rw [← HB2.out]; simp [hA, hB]
            subst hb2
            clear HB2 hA hB
            go_wp2_with fail
            refine (HNO.out _ HO2.out).mono ?_
            rintro e wa ⟨rfl, hoa⟩
            go_wp2_with fail
            refine (HPA.out _ (HO2.out.trans_nil hoa)).mono ?_
            rintro e wb ⟨rfl, hob⟩
            have hbq := (HQ.out.off hoa (by simp)).off hob (by simp)
            have hcq := hbq.cell
            have hlq := hbq.lt
            unfold inoCells at hcq
            clear hbq
            have hab := (hoa.trans_nil hob).alloc (.cells (rsnCells [x1, (true, 2), x3, (m.node.kind != 1, 73)]).toArray 111)
            clear hoa hob
            go_wp2_with fail
            go_meet
            exact ⟨wb.heap.size, rfl, rsns_blk wb [x1, (true, 2), x3, (m.node.kind != 1, 73)] _ rfl, hab⟩
          · have hB1 := hB
            by_cases hC : 511 < mode
            · have hC1 := hC
              have hb2 : b2 = true := by rw [← HB2.out]; simp [hA, hB, hC]
              subst hb2
              clear HB2 hA hB hC
              go_wp2_with fail
              refine (HNO.out _ HO2.out).mono ?_
              rintro e wa ⟨rfl, hoa⟩
              go_wp2_with fail
              refine (HPA.out _ (HO2.out.trans_nil hoa)).mono ?_
              rintro e wb ⟨rfl, hob⟩
              have hbq := (HQ.out.off hoa (by simp)).off hob (by simp)
              have hcq := hbq.cell
              have hlq := hbq.lt
              unfold inoCells at hcq
              clear hbq
              have hab := (hoa.trans_nil hob).alloc (.cells (rsnCells [x1, (true, 2), x3, (m.node.kind != 1, 73)]).toArray 111)
              clear hoa hob
              go_wp2_with fail
              go_meet
              exact ⟨wb.heap.size, rfl, rsns_blk wb [x1, (true, 2), x3, (m.node.kind != 1, 73)] _ rfl, hab⟩
            · have hC1 := hC
              have hb2 : b2 = false := by rw [← HB2.out]; simp [hA, hB, hC]
              subst hb2
              clear HB2 hA hB hC
              go_wp2_with fail
              refine (HNO.out _ HO2.out).mono ?_
              rintro e wa ⟨rfl, hoa⟩
              go_wp2_with fail
              refine (HPA.out _ (HO2.out.trans_nil hoa)).mono ?_
              rintro e wb ⟨rfl, hob⟩
              have hbq := (HQ.out.off hoa (by simp)).off hob (by simp)
              have hcq := hbq.cell
              have hlq := hbq.lt
              unfold inoCells at hcq
              clear hbq
              have hab := (hoa.trans_nil hob).alloc (.cells (rsnCells [x1, (false, 2), x3, (m.node.kind != 1, 73)]).toArray 111)
              clear hoa hob
              go_wp2_with fail
              go_meet
              rw [show (decide ((65536 : Int) < data.size) || decide (mode < 0) || decide (511 < mode)) = false from by simp only [Bool.or_eq_false_iff, decide_eq_false_iff_not]; omega]
              exact ⟨wb.heap.size, rfl, rsns_blk wb [x1, (false, 2), x3, (m.node.kind != 1, 73)] _ rfl, hab⟩
      case rest =>
        obtain ⟨g, rfl, hR, hox⟩ := hcut
        have HR := Lib.hid hR
        have HX2 := Lib.hid (HO2.out.trans_nil hox)
        have HBN2 := Lib.hid ((HBN.out.off HOW.out (by simp)).off hox (by simp))
        have HQ2 := Lib.hid (HQ.out.off hox (by simp))
        have HD2 := Lib.hid (H1.out.off HX2.out)
        obtain ⟨v, hv⟩ : ∃ v, firstE [x1, (b2, 2), x3, (m.node.kind != 1, 73), (full, 71)] = v := ⟨_, rfl⟩
        rw [hv] at HWR
        have HV := Lib.hid hv
        clear hR hox hv
        go_wp2_with (at_builtin; refine wpList_append_grows _ rfl _ _ 115 rfl 111 i0 _ 2 16 Tryz.underlying115 hi0 hz0 hz1 hz2 rfl (by decide) (some ⟨g, 0, none⟩) 4 4 (rsnCells [x1, (b2, 2), x3, (m.node.kind != 1, 73)]) rfl (by intro h; cases h) rfl (HR.out.off ((Off.refl _ _).alloc _)).cells ⟨wc.heap.size, 0, none⟩ 1 1 [.bool full, .int .i64 71] rfl rfl (cell_two_at (Blk.new wc _ _)) (by simp [Value.oneCell']) (by omega) (by unfold maxLen; omega) (by omega) ?_; intro v' w5 hown hgrow; obtain ⟨g5, c5, rfl, hR5⟩ := rsns_own (l := [x1, (b2, 2), x3, (m.node.kind != 1, 73)] ++ [(full, 71)]) (by rw [rsnCells_snoc]; exact hown) (by omega))
        refine (dfirst_any g5 c5 5 [x1, (b2, 2), x3, (m.node.kind != 1, 73), (full, 71)] w5 hR5 rfl (by omega)).mono ?_
        rintro e w6 ⟨rfl, ho6⟩
        rw [HV.out]
        have hx := ((((Off.refl [] wc).alloc _).grown hgrow (fun k hk => by cases hk))).trans_nil ho6
        have HX6 := Lib.hid (HX2.out.trans_nil hx)
        have HD6 := Lib.hid (HD2.out.off hx)
        have hbn := HBN2.out.off hx (by simp)
        have HBN6 := Lib.hid hbn
        have hbq := HQ2.out.off hx (by simp)
        have HQ6 := Lib.hid hbq
        clear hown hgrow ho6 hR5 hx
        by_cases hv0 : v = 0
        · subst hv0
          have HF := Lib.hid (show D.edited.write path data mode = (0, { E with inos := E.inos.set (lookN E.names path - 1) ⟨⟨⟨#[]⟩, 1, data, mode⟩, E.clock, true⟩ }) by rw [HWR.out]; simp)
          clear HWR
          have hcn := hbn.cell
          have hln := hbn.lt
          have hcq := hbq.cell
          have hfq := hbq.frozen
          have hlq := hbq.lt
          have hcd := HD6.out.m.blk.cell
          have hld := HD6.out.m.blk.lt
          have hne1 : p ≠ q := HD6.out.m.blk.ne_ hbq (by decide)
          have hne2 : w1.heap.size ≠ q := hbn.ne_ hbq (by decide)
          obtain ⟨cl, hcl⟩ : ∃ cl : Int, (E.clock : Int) = cl := ⟨_, rfl⟩
          unfold diskCells at hcd
          rw [hcl] at hcd HF
          have HCL := Lib.hid hcl
          unfold inoCells at hcq
          clear hbn hbq hcl
          go_upto_region 12 with fail
          go_region
          obtain ⟨k1, k2⟩ := put6 (a := .string ⟨#[]⟩) (b := .int .i64 1) (c := .string data) (d := .int .i64 mode) (x := .int .i64 cl) (y := .bool true) HQ6.out
          have K1 := Lib.hid k1.drew
          have K2 := Lib.hid k2.drew
          clear k1 k2 hcn hln hcq hfq hlq hcd hld
          go_wp2_with fail
          go_ret
          rw [HF.out]
          refine ⟨rfl, DSETo.step (HOP.out.1.trans_nil HX6.out) HOP.out.2 ((sync_end HD6.out HQ3.out K2.out ?_ hne1).le (by omega))⟩
          exact K1.out
        · have HF := Lib.hid (show D.edited.write path data mode = (v, E) by rw [HWR.out, if_pos hv0])
          have hne : (v == 0) = false := beq_eq_false_iff_ne.2 hv0
          clear hv0 HWR hbn hbq
          go_wp2_with fail
          go_ret
          rw [HF.out]
          exact ⟨rfl, DSETo.step (HOP.out.1.trans_nil HX6.out) HOP.out.2 (HD6.out.refl.le (by omega))⟩
  · have HS2 := Lib.hid (show D.edited.write path data mode = (er, E) by rw [HS.out, if_pos h0])
    have hne : (er == 0) = false := beq_eq_false_iff_ne.2 h0
    clear h0
    go_wp2_with fail
    go_ret
    rw [HS2.out]
    exact ⟨rfl, HT.out.le (by omega)⟩
end Go.Proofs.YtgcfkljooabjjaaGreatDoor

/- A disk's Replace: the walk. Conditions: what the contract states. -/
namespace Go.Proofs.YtgcfkljooabjjaaGreatDoor
open Go.RowKit Go.Op Go.Maps

/-- a name is struck -/
theorem NMat.rem {w : World} {b : Nat} {l : NameL} (h : NMat w b l) (p : ByteArray) (hp : p.size ≤ maxLen) (ty : TypeId) :
    ∃ w', (Builtin.delete_ #[95, 9] ty #[.map (some b), .string p]).run Tryz.prog w = .ok (.tuple #[]) w' ∧ NMat w' b (delN l p) ∧ w.grownBy w' (some b) := by
  obtain ⟨ha, D, hD, hs, hr⟩ := h
  obtain ⟨w', hrun, hown, ht⟩ := hD.drop strK Tryz.underlying95 (WideMaps.keyOf_string_mk Tryz.underlying9 hp) ty
  exact ⟨w', hrun, NMat.del ha hD hs hr p hown, ht.grown⟩
set_option maxRecDepth 100000 in
set_option maxHeartbeats 8000000 in
theorem repc_any (p m gp gq : Nat) (G : Geo) (D : PDisk) (path q : ByteArray) (W : World) (hM : DiskM W p { G with nb := m } D) (hm : m ∉ G.rest) (hn : D.names.length ≤ 1000000000) (hi : lookN D.names path ≤ 4611686018427387904) (hs : path.size ≤ maxLen) (hq : q.size ≤ maxLen)
    (hbp : Blk W gp 9 #[.string path]) (hbq : Blk W gq 9 #[.string q]) :
    Calls Tryz.prog 56 #[.map (some m), .pointer (some ⟨gp, 0, none⟩), .pointer (some ⟨gq, 0, none⟩)] W
      (TurnP p m G { D with names := delN (putN D.names q (lookN D.names path)) path } W) := by
  have hl := hM.parts.names.look path hs
  obtain ⟨w1, h1, hN1, hg1⟩ := hM.parts.names.add hn q hq (lookN D.names path : Int) (lookN D.names path) rfl hi
  obtain ⟨w2, h2, hN2, hg2⟩ := hN1.rem path hs 0
  have HM := Lib.hid hM
  have HMM := Lib.hid hm
  have HN2 := Lib.hid hN2
  have HG := Lib.hid (And.intro hg1 hg2)
  have hmb := hM.parts.names.isMap
  have hp1 := hbp.grown hg1 (fun e => hmb.ne hbp (by injection e with e; exact e.symm))
  have hcp := hbp.cell
  have hcq := hbq.cell
  have hcp1 := hp1.cell
  have hlp := hbp.lt
  have hlq := hbq.lt
  have hlp1 := hp1.lt
  generalize (lookN D.names path : Int) = ix at hl h1
  clear hM hm hN1 hN2 hg1 hg2 hmb hp1 hbp hbq hn hi hs hq
  go_enter Tryz.func56, Tryz.ntmps56
  go_wp2_with fail
  refine bodyPost_end (results_none rfl _ _ _) rfl ?_
  exact turn_names HM.out HMM.out HN2.out (((Off.refl [m] W).grown HG.out.1 (fun k hk => by cases hk; exact .inr (by simp))).grown HG.out.2 (fun k hk => by cases hk; exact .inr (by simp)))
theorem REPEN : ∀ args w, (callFunc 56 args).run Tryz.prog w = .ok (.enter 56 args) w := enters_of Tryz.func56 (by kernel_rfl) rfl
/-- a change of names, told by a closure -/
theorem DSE.changed {w w' : World} {p n : Nat} {G : Geo} {D : PDisk} {l : NameL} (h : DSE w p G D n) (hT : DiskTo w p G.parts w' { ({ D with names := l } : PDisk) with later := D.later ++ [l] }) (hk : Ok (D.change l) (n + 1)) : DSETo w p G.parts w' (D.change l) (n + 1) :=
  h.to (Off.refl _ _) hT hk
/-- a call that only reads: what it hands back, in whatever world comes behind w0 -/
structure Tells (f : FuncId) (args : Array Value) (w0 : World) (v : Value) : Prop where
  call : ∀ W, Off [] w0 W → Calls Tryz.prog f args W fun e w' => e = .returned v ∧ Off [] W w'
theorem tells_use {f : FuncId} {args : Array Value} {w0 W : World} {v : Value} (h : Tells f args w0 v) (ho : Off [] w0 W) : Calls Tryz.prog f args W fun e w' => e = .returned v ∧ Off [] W w' := h.call W ho
set_option maxRecDepth 100000 in
set_option maxHeartbeats 16000000 in
theorem dreplace_callE (p n : Nat) (G : Geo) (D : PDisk) (path q : ByteArray) (w : World) (h : DSE w p G D n) (hE : EditsOk D n) (hn : n ≤ 1000000) (hs : path.size ≤ 9223372036854775807) (hsq : q.size ≤ 9223372036854775807) :
    Calls Tryz.prog 18 #[.pointer (some ⟨p, 0, none⟩), .string path, .string q] w fun e w' => e = .returned (.int .i64 (D.edited.replace path q).1) ∧ DSETo w p G.parts w' (D.edited.replace path q).2 (n + 2) := by
  have H := Lib.hid h
  have HST := Lib.hid (fun (W : World) (ho : Off [] w W) => dstep_twoE p n G D ⟨#[82, 101, 112, 108, 97, 99, 101]⟩ path q W (h.off ho) hE hn)
  have HS := Lib.hid (show D.edited.replace path q = match D.edited.step ⟨#[82, 101, 112, 108, 97, 99, 101]⟩ path q with | (full, e, E) => if e ≠ 0 then (e, E) else E.replace_ path q from rfl)
  clear h
  generalize D.edited.step ⟨#[82, 101, 112, 108, 97, 99, 101]⟩ path q = st at HST HS
  obtain ⟨full, er, E⟩ := st
  have HS := Lib.hid (show D.edited.replace path q = if er ≠ 0 then (er, E) else E.replace_ path q from HS.out)
  go_enter Tryz.func18, Tryz.ntmps18
  go_upto_region 1 with fail
  refine code_gen (fun W => Blk W w.heap.size 9 #[.string path] ∧ Blk W (w.heap.size + 1) 9 #[.string q] ∧ Off [] w W ∧ w.heap.size + 1 < W.heap.size)
    ⟨(Blk.new w _ _).alloc _, Blk.new1 w _ _ _, ((Off.refl _ _).alloc _).alloc _, by simp⟩ ?_
  rintro W ⟨hbp, hbq, hof, hsz⟩
  have HBP := Lib.hid hbp
  have HBQ := Lib.hid hbq
  have HOF := Lib.hid hof
  have HSZ := Lib.hid hsz
  have hcp := hbp.cell
  have hcq := hbq.cell
  clear hbp hbq hof hsz
  go_wp2_with fail
  refine (HST.out W HOF.out).mono ?_
  rintro e w1 ⟨rfl, hT⟩
  have HT := Lib.hid hT
  clear hT HST hcp hcq
  by_cases h0 : er = 0
  · subst h0
    have HS2 := Lib.hid (show D.edited.replace path q = E.replace_ path q by rw [HS.out]; simp)
    obtain ⟨G1, h1, ho1, hp1⟩ := HT.out
    have hno : ∀ b, w.heap.size ≤ b → b < W.heap.size → b ∉ p :: G.parts := fun b hb _ hm => by
      rcases List.mem_cons.1 hm with rfl | hm
      · have := H.out.m.blk.lt; omega
      · have := H.out.m.parts.lt hm; omega
    have hbp1 := HBP.out.off ho1 (hno _ (Nat.le_refl _) (by have := HSZ.out; omega))
    have hbq1 := HBQ.out.off ho1 (hno _ (by omega) HSZ.out)
    have HBP1 := Lib.hid hbp1
    have HBQ1 := Lib.hid hbq1
    have HOP := Lib.hid (And.intro (show Off (p :: G.parts) w w1 from (HOF.out.mono (fun _ _ h => by simp at h)).trans ho1 (fun _ _ h => h)) (show ∀ b ∈ G1.parts, b ∈ G.parts ∨ w.heap.size ≤ b from fun b hb => by
      rcases hp1 b hb with h | h
      · exact .inl h
      · exact .inr (Nat.le_trans HOF.out.size h)))
    obtain ⟨x1, hx1⟩ : ∃ x, PDisk.no path = x := ⟨_, rfl⟩
    obtain ⟨x2, hx2⟩ : ∃ x, PDisk.no q = x := ⟨_, rfl⟩
    obtain ⟨x3, hx3⟩ : ∃ x, E.gone path = x := ⟨_, rfl⟩
    obtain ⟨x5, hx5⟩ : ∃ x, E.parentE q = x := ⟨_, rfl⟩
    obtain ⟨dp, hdp⟩ : ∃ x, E.dir path = x := ⟨_, rfl⟩
    obtain ⟨dq, hdq⟩ : ∃ x, E.dir q = x := ⟨_, rfl⟩
    obtain ⟨b, hb⟩ : ∃ b, decide (path = q) = b := ⟨_, rfl⟩
    have hbe : (path.toList == q.toList) = b := by
      rw [← hb]
      by_cases hpq : path = q
      · rw [hpq]; simp
      · rw [decide_eq_false hpq]
        rw [toList_str, toList_str]
        exact beq_eq_false_iff_ne.2 (fun e => hpq (str_inj e))
    have HX := Lib.hid (show PDisk.no path = x1 ∧ PDisk.no q = x2 ∧ E.gone path = x3 ∧ E.parentE q = x5 ∧ E.dir path = dp ∧ E.dir q = dq ∧ decide (path = q) = b from ⟨hx1, hx2, hx3, hx5, hdp, hdq, hb⟩)
    have hdr : ∀ W, Off [] w1.drew W → Off [] w1 W := fun W ho => (Off.refl [] w1).drew.trans_nil ho
    have HN1 := Lib.hid (show Tells 49 #[.string path] w1.drew (.agg #[.bool x1.1, .int .i64 x1.2]) from ⟨fun W ho => by
      have := dno_any path W (h1.tabs.off (hdr W ho))
      rw [hx1] at this; exact this⟩)
    have HN2 := Lib.hid (show Tells 49 #[.string q] w1.drew (.agg #[.bool x2.1, .int .i64 x2.2]) from ⟨fun W ho => by
      have := dno_any q W (h1.tabs.off (hdr W ho))
      rw [hx2] at this; exact this⟩)
    have HGO := Lib.hid (show Tells 53 #[.pointer (some ⟨p, 0, none⟩), .string path] w1.drew (.agg #[.bool x3.1, .int .i64 x3.2]) from ⟨fun W ho => by
      have := dgone_any p G1 E path W (h1.m.off (hdr W ho) (by simp) (by simp)) (by unfold maxLen; omega) (h1.ok.look (by omega) path)
      rw [hx3] at this; exact this⟩)
    have HPA := Lib.hid (show Tells 50 #[.pointer (some ⟨p, 0, none⟩), .string q] w1.drew (.agg #[.bool x5.1, .int .i64 x5.2]) from ⟨fun W ho => by
      have := dparent_big p G1 E q W (h1.m.off (hdr W ho) (by simp) (by simp)) hsq (fun x => h1.ok.look (by omega) x) (h1.tabs.off (hdr W ho))
      rw [hx5] at this; exact this⟩)
    have HDP := Lib.hid (show Tells 54 #[.pointer (some ⟨p, 0, none⟩), .string path] w1.drew (.bool dp) from ⟨fun W ho => ddir_v p G1 E path W (h1.m.off (hdr W ho) (by simp) (by simp)) (by unfold maxLen; omega) (h1.ok.look (by omega) path) dp hdp⟩)
    have HDQ := Lib.hid (show Tells 54 #[.pointer (some ⟨p, 0, none⟩), .string q] w1.drew (.bool dq) from ⟨fun W ho => ddir_v p G1 E q W (h1.m.off (hdr W ho) (by simp) (by simp)) (by unfold maxLen; omega) (h1.ok.look (by omega) q) dq hdq⟩)
    clear hdr
    have H1 := Lib.hid h1
    have HRP := Lib.hid (show E.replace_ path q = if firstE [x1, x2, (b, 2), x3, (dp || dq, 73), x5] ≠ 0 then (firstE [x1, x2, (b, 2), x3, (dp || dq, 73), x5], E) else (0, E.change (delN (putN E.names q (lookN E.names path)) path)) by
      unfold PDisk.replace_
      rw [hx1, hx2, hx3, hx5, hdp, hdq, hb])
    clear HS hx1 hx2 hx3 hx5 hdp hdq hb h1 ho1 hp1 hno hbp1 hbq1
    go_wp2_with fail
    go_cut [9] from 21 to 45 (fun s wx => s = .int .i64 (firstE [x1, x2, (b, 2), x3, (dp || dq, 73), x5]) ∧ Off [] w1 wx)
    case first =>
      have hch := Off.refl [] w1.drew
      have hB := HBP1.out.drew
      have hC := HBQ1.out.drew
      cases dp
      · go_region_held3 (fun w' => (∀ i, w'.cell? ⟨w.heap.size, i, none⟩ = (#[.string path] : Array Value)[i]?) ∧ (∀ i, w'.cell? ⟨w.heap.size + 1, i, none⟩ = (#[.string q] : Array Value)[i]?)) (first | assumption | exact ⟨hB.cell, hC.cell⟩ | exact ⟨(hB.alloc _).cell, (hC.alloc _).cell⟩) (first
          | (go_at_call 49; refine (tells_use (by exact HN1.out) hch).mono ?_; rintro e wA ⟨rfl, hoA⟩; have hch := hch.trans_nil hoA; have hB := hB.off hoA (by simp); have hC := hC.off hoA (by simp))
          | (go_at_call 49; refine (tells_use (by exact HN2.out) hch).mono ?_; rintro e wB ⟨rfl, hoB⟩; have hch := hch.trans_nil hoB; have hB := hB.off hoB (by simp); have hC := hC.off hoB (by simp))
          | (go_at_call 53; refine (tells_use (by exact HGO.out) hch).mono ?_; rintro e wC ⟨rfl, hoC⟩; have hch := hch.trans_nil hoC; have hB := hB.off hoC (by simp); have hC := hC.off hoC (by simp))
          | (go_at_call 54; refine (tells_use (by exact HDP.out) hch).mono ?_; rintro e wD ⟨rfl, hoD⟩; have hch := hch.trans_nil hoD; have hB := hB.off hoD (by simp); have hC := hC.off hoD (by simp))
          | (go_at_call 54; refine (tells_use (by exact HDQ.out) hch).mono ?_; rintro e wE ⟨rfl, hoE⟩; have hch := hch.trans_nil hoE; have hB := hB.off hoE (by simp); have hC := hC.off hoE (by simp))
          | (go_at_call 50; refine (tells_use (by exact HPA.out) hch).mono ?_; rintro e wF ⟨rfl, hoF⟩; have hch := hch.trans_nil hoF; have hB := hB.off hoF (by simp); have hC := hC.off hoF (by simp))
          | (go_at_call 52; refine (dfirst_any _ 6 6 [x1, x2, (b, 2), x3, (dq, 73), x5] _ (rsns_new _ [x1, x2, (b, 2), x3, (dq, 73), x5] _ rfl) rfl (by omega)).mono ?_; rintro e wG ⟨rfl, hoG⟩; have hch := (hch.alloc _).trans_nil hoG; have hB := (hB.alloc _).off hoG (by simp); have hC := (hC.alloc _).off hoG (by simp)))
        have hoe := (Off.refl [] w1).drew.trans_nil hch
        clear hch hB hC
        go_wp2_with fail
        go_meet
        exact ⟨rfl, hoe⟩
      · refine wp_region_held_drew (S := fun w' => (∀ i, w'.cell? ⟨w.heap.size, i, none⟩ = (#[.string path] : Array Value)[i]?) ∧ (∀ i, w'.cell? ⟨w.heap.size + 1, i, none⟩ = (#[.string q] : Array Value)[i]?)) (by kernel_rfl) ⟨hB.cell, hC.cell⟩ (fun hHeld => ?_)
        refine wpAnyH_take (i := 0) (v := ?_) rfl (by kernel_rfl) (by kernel_rfl) (by kernel_rfl) (fun _ _ _ h => h) (Or.inl ⟨by rfl, ?_⟩) (by assumption) ?_
        rotate_left
        · intro w hSw
          try dsimp only at hSw
          go_simp
          try with_reducible rfl
        try simp only [Act.put, List.setIfInBounds_toArray]
        refine wpAnyH_take (i := 2) (v := ?_) rfl (by kernel_rfl) (by kernel_rfl) (by kernel_rfl) (fun _ _ _ h => h) (Or.inl ⟨by rfl, ?_⟩) (by assumption) ?_
        rotate_left
        · intro w hSw
          try dsimp only at hSw
          go_simp
          try with_reducible rfl
        try simp only [Act.put]
        refine wpAnyH_take (i := 4) (v := ?_) rfl (by kernel_rfl) (by kernel_rfl) (by kernel_rfl) (fun _ _ _ h => h) (Or.inl ⟨by rfl, ?_⟩) (by assumption) ?_
        rotate_left
        · intro w hSw
          try dsimp only at hSw
          go_simp
          try with_reducible rfl
        try simp only [Act.put]
        refine wpAnyH_take (i := 5) (v := ?_) rfl (by kernel_rfl) (by kernel_rfl) (by kernel_rfl) (fun _ _ _ h => h) (Or.inl ⟨by rfl, ?_⟩) (by assumption) ?_
        rotate_left
        · intro w hSw
          try dsimp only at hSw
          go_simp
          try with_reducible rfl
        try simp only [Act.put]
        refine wpAnyH_take (i := 6) (v := ?_) rfl (by kernel_rfl) (by kernel_rfl) (by kernel_rfl) (fun _ _ _ h => h) (Or.inl ⟨by rfl, ?_⟩) (by assumption) ?_
        rotate_left
        · intro w hSw
          try dsimp only at hSw
          go_simp
          try with_reducible rfl
        try simp only [Act.put]
        refine wpAnyH_take (i := 7) (v := ?_) rfl (by kernel_rfl) (by kernel_rfl) (by kernel_rfl) (fun _ _ _ h => h) (Or.inl ⟨by rfl, ?_⟩) (by assumption) ?_
        rotate_left
        · intro w hSw
          try dsimp only at hSw
          go_simp
          try with_reducible rfl
        try simp only [Act.put]
        refine wpAnyH_take (i := 8) (v := ?_) rfl (by kernel_rfl) (by kernel_rfl) (by kernel_rfl) (fun _ _ _ h => h) (Or.inl ⟨by rfl, ?_⟩) (by assumption) ?_
        rotate_left
        · intro w hSw
          try dsimp only at hSw
          go_simp
          try with_reducible rfl
        try simp only [Act.put]
        refine wpAnyH_take (i := 9) (v := ?_) rfl (by kernel_rfl) (by kernel_rfl) (by kernel_rfl) (fun _ _ _ h => h) (Or.inl ⟨by rfl, ?_⟩) (by assumption) ?_
        rotate_left
        · intro w hSw
          try dsimp only at hSw
          go_simp
          try with_reducible rfl
        try simp only [Act.put]
        refine wpAnyH_take (i := 11) (v := ?_) rfl (by kernel_rfl) (by kernel_rfl) (by kernel_rfl) (fun _ _ _ h => h) (Or.inl ⟨by rfl, ?_⟩) (by assumption) ?_
        rotate_left
        · intro w hSw
          try dsimp only at hSw
          go_simp
          try with_reducible rfl
        try simp only [Act.put]
        refine wpAnyH_take (i := 12) (v := ?_) rfl (by kernel_rfl) (by kernel_rfl) (by kernel_rfl) (fun _ _ _ h => h) (Or.inl ⟨by rfl, ?_⟩) (by assumption) ?_
        rotate_left
        · intro w hSw
          try dsimp only at hSw
          go_simp
          try with_reducible rfl
        try simp only [Act.put]
        refine wpAnyH_take (i := 20) (v := ?_) rfl (by kernel_rfl) (by kernel_rfl) (by kernel_rfl) (fun _ _ _ h => h) (Or.inl ⟨by rfl, ?_⟩) (by assumption) ?_
        rotate_left
        · intro w hSw
          try dsimp only at hSw
          go_simp
          try with_reducible rfl
        try simp only [Act.put]
        refine wpAnyH_take (i := 21) (v := ?_) rfl (by kernel_rfl) (by kernel_rfl) (by kernel_rfl) (fun _ _ _ h => h) (Or.inl ⟨by rfl, ?_⟩) (by assumption) ?_
        rotate_left
        · intro w hSw
          try dsimp only at hSw
          go_simp
          try with_reducible rfl
        try simp only [Act.put]
        refine wpAnyH_ready (rs := [1]) (by kernel_rfl) (by simp) ?_
        refine AllReadyH.cons rfl (fun K hK => ?_) AllReadyH.nil
        go_simp
        refine (tells_use (by exact HN1.out) hch).mono ?_; rintro e wA ⟨rfl, hoA⟩; have hch := hch.trans_nil hoA; have hB := hB.off hoA (by simp); have hC := hC.off hoA (by simp)
        refine hK.out _ _ ?_ (fun hHeld => ?_)
        · exact ⟨hB.cell, hC.cell⟩
        clear hK K
        try simp only [Act.put, List.setIfInBounds_toArray, List.set_cons_zero, List.set_cons_succ]
        refine wpAnyH_ready (rs := [3]) (by kernel_rfl) (by simp) ?_
        refine AllReadyH.cons rfl (fun K hK => ?_) AllReadyH.nil
        go_simp
        refine (tells_use (by exact HN2.out) hch).mono ?_; rintro e wB ⟨rfl, hoB⟩; have hch := hch.trans_nil hoB; have hB := hB.off hoB (by simp); have hC := hC.off hoB (by simp)
        refine hK.out _ _ ?_ (fun hHeld => ?_)
        · exact ⟨hB.cell, hC.cell⟩
        clear hK K
        try simp only [Act.put, List.setIfInBounds_toArray, List.set_cons_zero, List.set_cons_succ]
        refine wpAnyH_ready (rs := [10]) (by kernel_rfl) (by simp) ?_
        refine AllReadyH.cons rfl (fun K hK => ?_) AllReadyH.nil
        go_simp
        refine (tells_use (by exact HGO.out) hch).mono ?_; rintro e wC ⟨rfl, hoC⟩; have hch := hch.trans_nil hoC; have hB := hB.off hoC (by simp); have hC := hC.off hoC (by simp)
        refine hK.out _ _ ?_ (fun hHeld => ?_)
        · exact ⟨hB.cell, hC.cell⟩
        clear hK K
        try simp only [Act.put, List.setIfInBounds_toArray, List.set_cons_zero, List.set_cons_succ]
        refine wpAnyH_ready (rs := [13]) (by kernel_rfl) (by simp) ?_
        refine AllReadyH.cons rfl (fun K hK => ?_) AllReadyH.nil
        go_simp
        refine (tells_use (by exact HDP.out) hch).mono ?_; rintro e wD ⟨rfl, hoD⟩; have hch := hch.trans_nil hoD; have hB := hB.off hoD (by simp); have hC := hC.off hoD (by simp)
        refine hK.out _ _ ?_ (fun hHeld => ?_)
        · exact ⟨hB.cell, hC.cell⟩
        clear hK K
        try simp only [Act.put, List.setIfInBounds_toArray, List.set_cons_zero, List.set_cons_succ]
        refine wpAnyH_take (i := 14) (v := ?_) rfl (by kernel_rfl) (by kernel_rfl) (by kernel_rfl) (fun _ _ _ h => h) (Or.inl ⟨by rfl, ?_⟩) (by assumption) ?_
        rotate_left
        · intro w hSw
          try dsimp only at hSw
          go_simp
          try with_reducible rfl
        try simp only [Act.put, List.setIfInBounds_toArray]
        refine wpAnyH_take (i := 15) (v := undef) rfl (by kernel_rfl) (by kernel_rfl) (by kernel_rfl) (fun _ _ _ h => h) (Or.inr ⟨by rfl, rfl⟩) (by assumption) ?_
        try simp only [Act.put]
        refine wpAnyH_take (i := 16) (v := undef) rfl (by kernel_rfl) (by kernel_rfl) (by kernel_rfl) (fun _ _ _ h => h) (Or.inr ⟨by rfl, rfl⟩) (by assumption) ?_
        try simp only [Act.put]
        refine wpAnyH_take (i := 17) (v := undef) rfl (by kernel_rfl) (by kernel_rfl) (by kernel_rfl) (fun _ _ _ h => h) (Or.inr ⟨by rfl, rfl⟩) (by assumption) ?_
        try simp only [Act.put]
        refine wpAnyH_take (i := 18) (v := ?_) rfl (by kernel_rfl) (by kernel_rfl) (by kernel_rfl) (fun _ _ _ h => h) (Or.inl ⟨by rfl, ?_⟩) (by assumption) ?_
        rotate_left
        · intro w hSw
          try dsimp only at hSw
          go_simp
          try with_reducible rfl
        try simp only [Act.put]
        refine wpAnyH_take (i := 19) (v := ?_) rfl (by kernel_rfl) (by kernel_rfl) (by kernel_rfl) (fun _ _ _ h => h) (Or.inl ⟨by rfl, ?_⟩) (by assumption) ?_
        rotate_left
        · intro w hSw
          try dsimp only at hSw
          go_simp
          try with_reducible rfl
        try simp only [Act.put]
        refine wpAnyH_ready (rs := [22]) (by kernel_rfl) (by simp) ?_
        refine AllReadyH.cons rfl (fun K hK => ?_) AllReadyH.nil
        go_simp
        refine (tells_use (by exact HPA.out) hch).mono ?_; rintro e wF ⟨rfl, hoF⟩; have hch := hch.trans_nil hoF; have hB := hB.off hoF (by simp); have hC := hC.off hoF (by simp)
        refine hK.out _ _ ?_ (fun hHeld => ?_)
        · exact ⟨hB.cell, hC.cell⟩
        clear hK K
        try simp only [Act.put, List.setIfInBounds_toArray, List.set_cons_zero, List.set_cons_succ]
        refine wpAnyH_ready (rs := [23]) (by kernel_rfl) (by simp) ?_
        refine AllReadyH.cons rfl (fun K hK => ?_) AllReadyH.nil
        go_simp
        refine hK.out _ _ ?_ (fun hHeld => ?_)
        · exact ⟨(hB.alloc _).cell, (hC.alloc _).cell⟩
        clear hK K
        try simp only [Act.put, List.setIfInBounds_toArray, List.set_cons_zero, List.set_cons_succ]
        refine wpAnyH_ready (rs := [24]) (by kernel_rfl) (by simp) ?_
        refine AllReadyH.cons rfl (fun K hK => ?_) AllReadyH.nil
        go_simp
        refine (dfirst_any _ 6 6 [x1, x2, (b, 2), x3, (true, 73), x5] _ (rsns_new _ [x1, x2, (b, 2), x3, (true, 73), x5] _ rfl) rfl (by omega)).mono ?_; rintro e wG ⟨rfl, hoG⟩; have hch := (hch.alloc _).trans_nil hoG; have hB := (hB.alloc _).off hoG (by simp); have hC := (hC.alloc _).off hoG (by simp)
        refine hK.out _ _ ?_ (fun hHeld => ?_)
        · exact ⟨hB.cell, hC.cell⟩
        clear hK K
        try simp only [Act.put, List.setIfInBounds_toArray, List.set_cons_zero, List.set_cons_succ]
        refine wpAnyH_ready (rs := [25]) (by kernel_rfl) (by simp) ?_
        refine AllReadyH.cons rfl (fun K hK => ?_) AllReadyH.nil
        go_simp
        refine hK.out _ _ ?_ (fun hHeld => ?_)
        · exact ⟨hB.cell, hC.cell⟩
        clear hK K
        try simp only [Act.put, List.setIfInBounds_toArray, List.set_cons_zero, List.set_cons_succ]
        refine wpAnyH_done (by kernel_rfl) ?_ _
        have hoe := (Off.refl [] w1).drew.trans_nil hch
        clear hch hB hC
        go_wp2_with fail
        go_meet
        exact ⟨rfl, hoe⟩
    case rest =>
      obtain ⟨rfl, hox⟩ := hcut
      have HOX := Lib.hid hox
      have HD2 := Lib.hid (H1.out.off hox)
      obtain ⟨v, hv⟩ : ∃ v, firstE [x1, x2, (b, 2), x3, (dp || dq, 73), x5] = v := ⟨_, rfl⟩
      rw [hv] at HRP ⊢
      have HV := Lib.hid hv
      clear hox hv hbe
      by_cases hv0 : v = 0
      · subst hv0
        have HF := Lib.hid (show D.edited.replace path q = (0, E.change (delN (putN E.names q (lookN E.names path)) path)) by rw [HS2.out, HRP.out]; simp)
        have HOK := Lib.hid (show Ok (E.change (delN (putN E.names q (lookN E.names path)) path)) (n + 1 + 1) from by
          have h3 := PDisk.replace__ok H1.out.ok path q
          rw [HRP.out] at h3
          simpa using h3)
        have HTN := Lib.hid (fun (W1 : World) (hW1 : DiskM W1 p { G1 with nb := wc.heap.size } E) (ho1 : Off [p] wc W1) =>
          show Calls Tryz.prog 56 (#[.map (some wc.heap.size)] ++ #[.pointer (some ⟨w.heap.size, 0, none⟩), .pointer (some ⟨w.heap.size + 1, 0, none⟩)]) W1 (TurnP p wc.heap.size G1 { E with names := delN (putN E.names q (lookN E.names path)) path } W1) from
          repc_any p wc.heap.size w.heap.size (w.heap.size + 1) G1 E path q W1 hW1 (fun h => Nat.lt_irrefl _ (HD2.out.m.parts.lt (List.mem_cons_of_mem _ h))) (by have := HD2.out.ok.nlen; omega) (HD2.out.ok.look (by omega) path) (by unfold maxLen; omega) (by unfold maxLen; omega)
            ((HBP1.out.off HOX.out (by simp)).off ho1 (by have := H.out.m.blk.lt; simp; omega)) ((HBQ1.out.off HOX.out (by simp)).off ho1 (by have := H.out.m.blk.lt; simp; omega)))
        have HCH := Lib.hid (dchange_any p G1 E { E with names := delN (putN E.names q (lookN E.names path)) path } 56 #[.pointer (some ⟨w.heap.size, 0, none⟩), .pointer (some ⟨w.heap.size + 1, 0, none⟩)] wc HD2.out.m HD2.out.sb (by have := HD2.out.ok.llen; show E.later.length ≤ _; omega) REPEN HTN.out)
        clear HRP
        go_wp2_with fail
        refine HCH.out.mono ?_
        rintro e w7 ⟨rfl, hT⟩
        have HT7 := Lib.hid hT
        clear hT
        go_wp2_with fail
        go_ret
        rw [HF.out]
        exact ⟨rfl, DSETo.step (HOP.out.1.trans_nil HOX.out) HOP.out.2 (HD2.out.changed HT7.out HOK.out)⟩
      · have HF := Lib.hid (show D.edited.replace path q = (v, E) by rw [HS2.out, HRP.out, if_pos hv0])
        have hne : (v == 0) = false := beq_eq_false_iff_ne.2 hv0
        clear hv0 HRP
        go_wp2_with fail
        go_ret
        rw [HF.out]
        exact ⟨rfl, DSETo.step (HOP.out.1.trans_nil HOX.out) HOP.out.2 (HD2.out.refl.le (by omega))⟩
  · have HS2 := Lib.hid (show D.edited.replace path q = (er, E) by rw [HS.out, if_pos h0])
    have hne : (er == 0) = false := beq_eq_false_iff_ne.2 h0
    clear h0
    go_wp2_with fail
    go_ret
    rw [HS2.out]
    obtain ⟨G1, h1, ho1, hp1⟩ := HT.out
    refine ⟨rfl, DSETo.step (G1 := G1) ((HOF.out.mono (fun _ _ h => by simp at h)).trans ho1 (fun _ _ h => h)) (fun b hb => ?_) (h1.refl.le (by omega))⟩
    rcases hp1 b hb with h | h
    · exact .inl h
    · exact .inr (Nat.le_trans HOF.out.size h)
end Go.Proofs.YtgcfkljooabjjaaGreatDoor

/- A disk's Remove: the walk. Conditions: what the contract states. -/
namespace Go.Proofs.YtgcfkljooabjjaaGreatDoor
open Go.RowKit Go.Op Go.Maps

/-- a name strictly within a path -/
def insP (path x : ByteArray) : Bool := !decide (x = path) && within (str x) (str path)
def PDisk.inside (D : PDisk) (path : ByteArray) : Bool := D.names.any fun x => insP path x.1
def PDisk.remove_ (D : PDisk) (p : ByteArray) : Int × PDisk :=
  let e := firstE [PDisk.no p, D.gone p, (D.inside p, 72)]
  if e ≠ 0 then (e, D) else (0, D.change (delN D.names p))
def PDisk.remove (D : PDisk) (p : ByteArray) : Int × PDisk := D.call ⟨#[82, 101, 109, 111, 118, 101]⟩ p ⟨#[]⟩ fun E _ => E.remove_ p
theorem PDisk.remove__ok {D : PDisk} {n : Nat} (h : Ok D n) (p : ByteArray) : Ok (D.remove_ p).2 (n + 1) := by
  unfold PDisk.remove_
  dsimp only
  split
  · exact PDisk.ok_mono h (Nat.le_succ n)
  · refine PDisk.change_ok h h.names.del ?_
    have h1 := length_delN_le D.names p
    have h3 := h.nlen
    omega
theorem PDisk.remove_ok {D : PDisk} {n : Nat} (h : Ok D n) (p : ByteArray) : Ok (D.remove p).2 (n + 2) := PDisk.call_ok h _ _ _ _ fun _ _ h => PDisk.remove__ok h _
set_option maxRecDepth 100000 in
set_option maxHeartbeats 8000000 in
theorem remc_any (p m gp : Nat) (G : Geo) (D : PDisk) (path : ByteArray) (W : World) (hM : DiskM W p { G with nb := m } D) (hm : m ∉ G.rest) (hs : path.size ≤ maxLen) (hbp : Blk W gp 9 #[.string path]) :
    Calls Tryz.prog 99 #[.map (some m), .pointer (some ⟨gp, 0, none⟩)] W (TurnP p m G { D with names := delN D.names path } W) := by
  obtain ⟨w2, h2, hN2, hg2⟩ := hM.parts.names.rem path hs 0
  have HM := Lib.hid hM
  have HMM := Lib.hid hm
  have HN2 := Lib.hid hN2
  have HG := Lib.hid hg2
  have hcp := hbp.cell
  have hlp := hbp.lt
  clear hM hm hN2 hg2 hbp hs
  go_enter Tryz.func99, Tryz.ntmps99
  go_wp2_with fail
  refine bodyPost_end (results_none rfl _ _ _) rfl ?_
  exact turn_names HM.out HMM.out HN2.out ((Off.refl [m] W).grown HG.out (fun k hk => by cases hk; exact .inr (by simp)))
theorem REMEN : ∀ args w, (callFunc 99 args).run Tryz.prog w = .ok (.enter 99 args) w := enters_of Tryz.func99 (by kernel_rfl) rfl
/-- which name has come -/
theorem name_came {Dm : DataW Unit} {l : NameL} {x : ByteArray} {kl : Lit} {yd : DataW Unit} (hr : ∀ p, has Dm (strL p) = hasN l p) (hk : keyOf Tryz.prog 9 (.string x) = some kl) (hat : ∀ zd, Dm.atKey kl zd = yd) : kl = strL x ∧ hasN l x = true := by
  obtain ⟨z, hz, hkl, _⟩ := Maps.keyOf_str Tryz.underlying9 hk
  have hxz : x = ⟨z.toArray⟩ := by
    unfold encStr at hz
    injection hz
  have hkx : kl = strL x := by rw [hkl, hxz]; simp [strL]
  refine ⟨hkx, ?_⟩
  rw [← hr, ← hkx]
  exact has_true_of_atKey hat
theorem name_shape {key : Value} {kl : Lit} (h : keyOf Tryz.prog 9 key = some kl) : ∃ x : ByteArray, key = Value.string x := by
  obtain ⟨z, rfl, -, -⟩ := Maps.keyOf_str Tryz.underlying9 h
  exact ⟨_, rfl⟩
theorem num_shape {v : Value} {y : DataW Unit × List MemPlace} (h : plainElem Tryz.prog 3 v = some y) : ∃ c : Int, v = Value.int .i64 c := by
  obtain ⟨c, rfl, -⟩ := plainElem_int_inv Tryz.underlying3 h
  exact ⟨c, rfl⟩
/-- in the midst of the names: what has been asked so far -/
def AskI (l : NameL) (P : ByteArray → Bool) (left : Lit → Bool) (b : Bool) : Prop :=
  (b = true → l.any (fun x => P x.1) = true) ∧ ∀ x ∈ l, left (strL x.1) = false → P x.1 = true → b = true
theorem AskI.start {l : NameL} {P : ByteArray → Bool} {left : Lit → Bool} (h : ∀ x ∈ l, left (strL x.1) = true) : AskI l P left false := ⟨(fun h => by cases h), (fun x hx h1 => by rw [h x hx] at h1; cases h1)⟩
theorem AskI.done {l : NameL} {P : ByteArray → Bool} {left : Lit → Bool} {b : Bool} (h : AskI l P left b) (hl : ∀ z, left z = false) : b = l.any fun x => P x.1 := by
  cases hb : l.any (fun x => P x.1)
  · cases b
    · rfl
    · rw [h.1 rfl] at hb; cases hb
  · obtain ⟨x, hx, hP⟩ := List.any_eq_true.1 hb
    exact h.2 x hx (hl _) hP
theorem AskI.next {l : NameL} {P : ByteArray → Bool} {left : Lit → Bool} {b c : Bool} {x : ByteArray} (h : AskI l P left b) (hx : hasN l x = true) (hc : c = (b || P x)) : AskI l P (fun z => left z && !z.sameKey (strL x)) c := by
  subst hc
  refine ⟨fun h1 => ?_, fun y hy h1 h2 => ?_⟩
  · rw [Bool.or_eq_true] at h1
    rcases h1 with h1 | h1
    · exact h.1 h1
    · obtain ⟨y, hy, rfl⟩ := (hasN_iff l x).1 hx
      exact List.any_eq_true.2 ⟨y, hy, h1⟩
  · rw [Bool.or_eq_true]
    by_cases e : y.1 = x
    · right; rw [← e]; exact h2
    · left
      refine h.2 y hy ?_ h2
      have h1 : (left (strL y.1) && !(strL y.1).sameKey (strL x)) = false := h1
      rw [sameKey_ne (fun e' => e (strL_inj e'))] at h1
      simpa using h1
set_option maxRecDepth 100000 in
set_option maxHeartbeats 16000000 in
theorem dremove_callE (p n : Nat) (G : Geo) (D : PDisk) (path : ByteArray) (w : World) (h : DSE w p G D n) (hE : EditsOk D n) (hn : n ≤ 1000000) (hs : path.size ≤ 9223372036854775807) :
    Calls Tryz.prog 64 #[.pointer (some ⟨p, 0, none⟩), .string path] w fun e w' => e = .returned (.int .i64 (D.edited.remove path).1) ∧ DSETo w p G.parts w' (D.edited.remove path).2 (n + 2) := by
  have H := Lib.hid h
  have HST := Lib.hid (fun (W : World) (ho : Off [] w W) => dstep_oneE p n G D ⟨#[82, 101, 109, 111, 118, 101]⟩ path W (h.off ho) hE hn)
  have HS := Lib.hid (show D.edited.remove path = match D.edited.step ⟨#[82, 101, 109, 111, 118, 101]⟩ path ⟨#[]⟩ with | (full, e, E) => if e ≠ 0 then (e, E) else E.remove_ path from rfl)
  clear h
  generalize D.edited.step ⟨#[82, 101, 109, 111, 118, 101]⟩ path ⟨#[]⟩ = st at HST HS
  obtain ⟨full, er, E⟩ := st
  have HS := Lib.hid (show D.edited.remove path = if er ≠ 0 then (er, E) else E.remove_ path from HS.out)
  go_enter Tryz.func64, Tryz.ntmps64
  go_upto_region 1 with fail
  refine code_gen (fun W => Blk W w.heap.size 9 #[.string path] ∧ Off [] w W ∧ w.heap.size < W.heap.size) ⟨Blk.new w _ _, (Off.refl _ _).alloc _, by simp⟩ ?_
  rintro W ⟨hbp, hof, hsz⟩
  have HBP := Lib.hid hbp
  have HOF := Lib.hid hof
  have HSZ := Lib.hid hsz
  have hcp := hbp.cell
  clear hbp hof hsz
  go_wp2_with fail
  refine (HST.out W HOF.out).mono ?_
  rintro e w1 ⟨rfl, hT⟩
  have HT := Lib.hid hT
  clear hT HST hcp
  by_cases h0 : er = 0
  · subst h0
    have HS2 := Lib.hid (show D.edited.remove path = E.remove_ path by rw [HS.out]; simp)
    obtain ⟨G1, h1, ho1, hp1⟩ := HT.out
    have hbp1 := HBP.out.off ho1 (fun hm => by
      rcases List.mem_cons.1 hm with h | hm
      · have := H.out.m.blk.lt; omega
      · have := H.out.m.parts.lt hm; omega)
    have HBP1 := Lib.hid hbp1
    have HOP := Lib.hid (And.intro (show Off (p :: G.parts) w w1 from (HOF.out.mono (fun _ _ h => by simp at h)).trans ho1 (fun _ _ h => h)) (show ∀ b ∈ G1.parts, b ∈ G.parts ∨ w.heap.size ≤ b from fun b hb => by
      rcases hp1 b hb with h | h
      · exact .inl h
      · exact .inr (Nat.le_trans HOF.out.size h)))
    have H1 := Lib.hid h1
    obtain ⟨ha, Dm, hDm, hsz, hr⟩ := h1.m.parts.names
    have HR := Lib.hid hr
    have HA := Lib.hid ha
    have hc := h1.m.blk.cell
    unfold diskCells at hc
    obtain ⟨nl, hnl⟩ : ∃ nl, E.names.length = nl := ⟨_, rfl⟩
    rw [hnl] at hDm
    clear HS h1 ho1 hp1 hbp1 ha hr hsz hnl
    go_wp2_with (at_range; refine wpList_range_own _ rfl _ 95 rfl 9 3 strK Tryz.underlying95 (plainElem Tryz.prog 3) G1.nb nl Dm rfl hDm ?_; intro w3 hrg hg3 hs3)
    have HG3 := Lib.hid hg3
    have HS3 := Lib.hid hs3
    have hst : Hid (AskI E.names (insP path) (has Dm) false) := Lib.hid (AskI.start (fun x hx => by rw [(HR.out x.1).1]; exact (hasN_iff _ _).2 ⟨x, hx, rfl⟩))
    clear hg3 hs3 hc hDm
    go_frame
    go_loopw [7] (fun s wr => ∃ left cnt b, s = .bool b ∧ wr.ranges Tryz.prog 9 (plainElem Tryz.prog 3) G1.nb w1.heap.size nl Dm left cnt ∧ Off [w1.heap.size] w3 wr ∧ Hid (AskI E.names (insP path) left b)) (fun _ wr => wr.rangeLeft G1.nb w1.heap.size)
    case atStart => exact ⟨_, _, _, rfl, hrg, Off.refl _ _, hst⟩
    case round =>
      clear hst hrg
      obtain ⟨left, cnt, b, rfl, hrel, ho, HI⟩ := hrel
      have HO3 := Lib.hid ho
      have HO13 := Lib.hid (show Off [] w1 wr from ((Off.refl [] w1).grown HG3.out (fun k hk => by cases hk)).trans ho (fun x hx hm => by simp at hm; omega))
      clear ho
      go_wp2_with (at_next; refine wpList_next_ranges _ rfl _ rfl 9 strK (plainElem Tryz.prog 3) Value.string (Value.int .i64) (fun _ _ h => name_shape h) (fun _ _ h => num_shape h) G1.nb w1.heap.size nl Dm _ _ rfl hrel ?_ ?_)
      · intro hc0 hl0
        have HBI := Lib.hid (HI.out.done hl0)
        clear hl0 hc0 hrel HI
        have hbe : b = E.inside path := HBI.out
        obtain ⟨x1, hx1⟩ : ∃ x, PDisk.no path = x := ⟨_, rfl⟩
        obtain ⟨x2, hx2⟩ : ∃ x, E.gone path = x := ⟨_, rfl⟩
        have HDR := Lib.hid (H1.out.off HO13.out)
        have hdr : ∀ W, Off [] wr.drew W → Off [] wr W := fun W ho => (Off.refl [] wr).drew.trans_nil ho
        have HN1 := Lib.hid (show Tells 49 #[.string path] wr.drew (.agg #[.bool x1.1, .int .i64 x1.2]) from ⟨fun W ho => by
          have := dno_any path W (HDR.out.tabs.off (hdr W ho))
          rw [hx1] at this; exact this⟩)
        have HGO := Lib.hid (show Tells 53 #[.pointer (some ⟨p, 0, none⟩), .string path] wr.drew (.agg #[.bool x2.1, .int .i64 x2.2]) from ⟨fun W ho => by
          have := dgone_any p G1 E path W (HDR.out.m.off (hdr W ho) (by simp) (by simp)) (by unfold maxLen; omega) (HDR.out.ok.look (by omega) path)
          rw [hx2] at this; exact this⟩)
        have HBR := Lib.hid (HBP1.out.off HO13.out (by simp))
        have HRM := Lib.hid (show E.remove_ path = if firstE [x1, x2, (b, 72)] ≠ 0 then (firstE [x1, x2, (b, 72)], E) else (0, E.change (delN E.names path)) by
          unfold PDisk.remove_
          rw [hx1, hx2, hbe])
        clear hx1 hx2 hdr hbe
        go_wp2_with fail
        go_cut [9] from 40 to 48 (fun s wx => s = .int .i64 (firstE [x1, x2, (b, 72)]) ∧ Off [] wr wx)
        case first =>
          have hch := Off.refl [] wr.drew
          have hB := HBR.out.drew
          go_region_held3 (fun w' => ∀ i, w'.cell? ⟨w.heap.size, i, none⟩ = (#[.string path] : Array Value)[i]?) (first | assumption | exact hB.cell | exact (hB.alloc _).cell) (first
            | (go_at_call 49; refine (tells_use (by exact HN1.out) hch).mono ?_; rintro e wA ⟨rfl, hoA⟩; have hch := hch.trans_nil hoA; have hB := hB.off hoA (by simp))
            | (go_at_call 53; refine (tells_use (by exact HGO.out) hch).mono ?_; rintro e wC ⟨rfl, hoC⟩; have hch := hch.trans_nil hoC; have hB := hB.off hoC (by simp))
            | (go_at_call 52; refine (dfirst_any _ 3 3 [x1, x2, (b, 72)] _ (rsns_new _ [x1, x2, (b, 72)] _ rfl) rfl (by omega)).mono ?_; rintro e wG ⟨rfl, hoG⟩; have hch := (hch.alloc _).trans_nil hoG; have hB := (hB.alloc _).off hoG (by simp)))
          have hoe := (Off.refl [] wr).drew.trans_nil hch
          clear hch hB
          go_wp2_with fail
          go_meet
          exact ⟨rfl, hoe⟩
        case rest =>
          obtain ⟨rfl, hox⟩ := hcut
          have HOX := Lib.hid (HO13.out.trans_nil hox)
          have HD2 := Lib.hid (HDR.out.off hox)
          obtain ⟨v, hv⟩ : ∃ v, firstE [x1, x2, (b, 72)] = v := ⟨_, rfl⟩
          rw [hv] at HRM ⊢
          have HV := Lib.hid hv
          have HBX := Lib.hid (HBR.out.off hox (by simp))
          clear hox hv
          by_cases hv0 : v = 0
          · subst hv0
            have HF := Lib.hid (show D.edited.remove path = (0, E.change (delN E.names path)) by rw [HS2.out, HRM.out]; simp)
            have HOK := Lib.hid (show Ok (E.change (delN E.names path)) (n + 1 + 1) from by
              have h3 := PDisk.remove__ok H1.out.ok path
              rw [HRM.out] at h3
              simpa using h3)
            have HTN := Lib.hid (fun (W1 : World) (hW1 : DiskM W1 p { G1 with nb := wc.heap.size } E) (ho1 : Off [p] wc W1) =>
              show Calls Tryz.prog 99 (#[.map (some wc.heap.size)] ++ #[.pointer (some ⟨w.heap.size, 0, none⟩)]) W1 (TurnP p wc.heap.size G1 { E with names := delN E.names path } W1) from
              remc_any p wc.heap.size w.heap.size G1 E path W1 hW1 (fun h => Nat.lt_irrefl _ (HD2.out.m.parts.lt (List.mem_cons_of_mem _ h))) (by unfold maxLen; omega) (HBX.out.off ho1 (by have := H.out.m.blk.lt; simp; omega)))
            have HCH := Lib.hid (dchange_any p G1 E { E with names := delN E.names path } 99 #[.pointer (some ⟨w.heap.size, 0, none⟩)] wc HD2.out.m HD2.out.sb (by have := HD2.out.ok.llen; show E.later.length ≤ _; omega) REMEN HTN.out)
            clear HRM
            go_wp2_with fail
            refine HCH.out.mono ?_
            rintro e w7 ⟨rfl, hT⟩
            have HT7 := Lib.hid hT
            clear hT
            go_wp2_with fail
            go_ret
            rw [HF.out]
            exact ⟨rfl, DSETo.step (HOP.out.1.trans_nil HOX.out) HOP.out.2 (HD2.out.changed HT7.out HOK.out)⟩
          · have HF := Lib.hid (show D.edited.remove path = (v, E) by rw [HS2.out, HRM.out, if_pos hv0])
            have hne : (v == 0) = false := beq_eq_false_iff_ne.2 hv0
            clear hv0 HRM
            go_wp2_with fail
            go_ret
            rw [HF.out]
            exact ⟨rfl, DSETo.step (HOP.out.1.trans_nil HOX.out) HOP.out.2 (HD2.out.refl.le (by omega))⟩
      · intro x c kl yd yp w4 cnt1 hkey hlk hy hat hrg1 hlt1 hg1 hs1 hen
        obtain ⟨rfl, hhas⟩ := name_came (fun p => (HR.out p).1) hkey hat
        have ho4 : Off [w1.heap.size] w3 w4 := HO3.out.grown hg1 (fun k hk => by cases hk; exact .inr (by simp))
        have ho14 : Off [] w1 w4 := HO13.out.grown hg1 (fun k hk => by cases hk; exact .inl (Nat.le_refl _))
        have HLE := Lib.hid (show w4.rangeLeft G1.nb w1.heap.size < wr.rangeLeft G1.nb w1.heap.size by rw [hrg1.left_eq, hrel.left_eq]; exact hlt1)
        have HRG := Lib.hid hrg1
        have HO4 := Lib.hid ho4
        have HO14 := Lib.hid ho14
        have hcp := (HBP1.out.off ho14 (by simp)).cell
        have hlp := (HBP1.out.off ho14 (by simp)).lt
        have HHAS := Lib.hid hhas
        have HWI := Lib.hid (nwithin_any x path w4 ((H1.out.off ho14).tabs.tabs))
        clear hkey hlk hy hat hrg1 hlt1 hg1 hs1 hrel ho4 ho14 hhas
        change (Instr.entry (.pointer (some ⟨w1.heap.size, 0, none⟩))).run Tryz.prog w4 = .ok (.tuple #[.string x, .int .i64 c]) w4 at hen
        have FIN := Lib.hid (show ∀ (w5 : World) (b2 : Bool), Off [] w4 w5 → b2 = (b || insP path x) → (∃ left cnt b', Value.bool b2 = .bool b' ∧ w5.ranges Tryz.prog 9 (plainElem Tryz.prog 3) G1.nb w1.heap.size nl Dm left cnt ∧ Off [w1.heap.size] w3 w5 ∧ Hid (AskI E.names (insP path) left b')) ∧ w5.rangeLeft G1.nb w1.heap.size < wr.rangeLeft G1.nb w1.heap.size from fun w5 b2 ho5 hb2 => by
          have hg5 : w4.grownBy w5 none := ⟨ho5.os, ho5.tape, ho5.output, ho5.size, fun i hi _ => ho5.block i hi (by simp)⟩
          have hr5 := HRG.out.kept hg5 (by simp) (by simp)
          refine ⟨⟨_, _, b2, rfl, hr5, HO4.out.trans_nil ho5, Lib.hid (HI.out.next HHAS.out hb2)⟩, ?_⟩
          have := HLE.out
          rw [HRG.out.left_eq] at this
          rw [hr5.left_eq]
          exact this)
        cases b
        · by_cases hxp : x = path
          · have hxe : (x.toList == path.toList) = true := by rw [hxp]; simp
            have HP := Lib.hid (show false = (false || insP path x) by unfold insP; rw [decide_eq_true hxp]; rfl)
            clear hxp
            go_wp2_with fail
            exact FIN.out _ _ (Off.refl _ _) HP.out
          · have hxe : (x.toList == path.toList) = false := by
              rw [toList_str, toList_str]
              exact beq_eq_false_iff_ne.2 (fun e => hxp (str_inj e))
            obtain ⟨v, hv⟩ : ∃ v, within (str x) (str path) = v := ⟨_, rfl⟩
            have HP := Lib.hid (show v = (false || insP path x) by unfold insP; rw [decide_eq_false hxp, hv]; simp)
            rw [hv] at HWI
            clear hxp hv
            go_wp2_with fail
            refine HWI.out.mono ?_
            rintro e w5 ⟨rfl, ho5⟩
            go_wp2_with fail
            exact FIN.out _ _ ho5 HP.out
        · go_wp2_with fail
          exact FIN.out _ _ (Off.refl _ _) (by simp)
  · have HS2 := Lib.hid (show D.edited.remove path = (er, E) by rw [HS.out, if_pos h0])
    have hne : (er == 0) = false := beq_eq_false_iff_ne.2 h0
    clear h0
    go_wp2_with fail
    go_ret
    rw [HS2.out]
    obtain ⟨G1, h1, ho1, hp1⟩ := HT.out
    refine ⟨rfl, DSETo.step (G1 := G1) ((HOF.out.mono (fun _ _ h => by simp at h)).trans ho1 (fun _ _ h => h)) (fun b hb => ?_) (h1.refl.le (by omega))⟩
    rcases hp1 b hb with h | h
    · exact .inl h
    · exact .inr (Nat.le_trans HOF.out.size h)
end Go.Proofs.YtgcfkljooabjjaaGreatDoor

/- A disk's Mkdir: the walk. Conditions: what the contract states. -/
namespace Go.Proofs.YtgcfkljooabjjaaGreatDoor
open Go.RowKit Go.Op Go.Maps

def PDisk.mkdir_ (D : PDisk) (full : Bool) (p : ByteArray) : Int × PDisk := D.lay p ⟨⟨#[]⟩, 2, ⟨#[]⟩, 0⟩ full [PDisk.no p, D.parentE p, D.there p]
def PDisk.mkdir (D : PDisk) (p : ByteArray) : Int × PDisk := D.call ⟨#[77, 107, 100, 105, 114]⟩ p ⟨#[]⟩ fun E full => E.mkdir_ full p
theorem PDisk.mkdir__ok {D : PDisk} {n : Nat} (h : Ok D n) (full : Bool) (p : ByteArray) : Ok (D.mkdir_ full p).2 (n + 1) :=
  PDisk.lay_ok h _ _ _ _ (by intro x hx; simp only [List.mem_cons, List.not_mem_nil, or_false] at hx; rcases hx with rfl | rfl | rfl <;> simp [PDisk.no, PDisk.parentE, PDisk.there]) (by simp)
set_option maxRecDepth 100000 in
set_option maxHeartbeats 16000000 in
theorem dmkdir_callE (p n : Nat) (G : Geo) (D : PDisk) (path : ByteArray) (w : World) (h : DSE w p G D n) (hE : EditsOk D n) (hn : n ≤ 1000000) (hs : path.size ≤ 9223372036854775807) :
    Calls Tryz.prog 72 #[.pointer (some ⟨p, 0, none⟩), .string path] w fun e w' => e = .returned (.int .i64 (D.edited.mkdir path).1) ∧ DSETo w p G.parts w' (D.edited.mkdir path).2 (n + 2) := by
  have HST := Lib.hid (dstep_oneE p n G D ⟨#[77, 107, 100, 105, 114]⟩ path w h hE hn)
  have HS := Lib.hid (show D.edited.mkdir path = match D.edited.step ⟨#[77, 107, 100, 105, 114]⟩ path ⟨#[]⟩ with | (full, e, E) => if e ≠ 0 then (e, E) else E.mkdir_ full path from rfl)
  clear h
  generalize D.edited.step ⟨#[77, 107, 100, 105, 114]⟩ path ⟨#[]⟩ = st at HST HS
  obtain ⟨full, er, E⟩ := st
  have HS := Lib.hid (show D.edited.mkdir path = if er ≠ 0 then (er, E) else E.mkdir_ full path from HS.out)
  go_enter Tryz.func72, Tryz.ntmps72
  go_wp2_with fail
  refine HST.out.mono ?_
  rintro e w1 ⟨rfl, hT⟩
  have HT := Lib.hid hT
  clear hT HST
  by_cases h0 : er = 0
  · subst h0
    have HS2 := Lib.hid (show D.edited.mkdir path = E.mkdir_ full path by rw [HS.out]; simp)
    obtain ⟨G1, h1, ho1, hp1⟩ := HT.out
    have HOP := Lib.hid (And.intro ho1 hp1)
    have H1 := Lib.hid h1
    obtain ⟨x1, hx1⟩ : ∃ x, PDisk.no path = x := ⟨_, rfl⟩
    obtain ⟨x2, hx2⟩ : ∃ x, E.parentE path = x := ⟨_, rfl⟩
    obtain ⟨x3, hx3⟩ : ∃ x, E.there path = x := ⟨_, rfl⟩
    have HNO := Lib.hid (dno_any path w1 h1.tabs.tabs)
    have HPA := Lib.hid (fun (W : World) (ho : Off [] w1 W) => dparent_big p G1 E path W (h1.m.off ho (by simp) (by simp)) hs (fun x => h1.ok.look (by omega) x) (h1.tabs.off ho))
    have HTH := Lib.hid (fun (W : World) (ho : Off [] w1 W) => dthere_any p G1 E path W (h1.m.off ho (by simp) (by simp)) (by unfold maxLen; omega) (h1.ok.look (by omega) path))
    have HX := Lib.hid (show E.mkdir_ full path = E.lay path ⟨⟨#[]⟩, 2, ⟨#[]⟩, 0⟩ full [x1, x2, x3] by unfold PDisk.mkdir_; rw [hx1, hx2, hx3])
    rw [hx1] at HNO
    rw [hx2] at HPA
    rw [hx3] at HTH
    unfold rsn at HNO HPA HTH
    clear HS hx1 hx2 hx3 h1 ho1 hp1
    go_wp2_with fail
    refine HNO.out.mono ?_
    rintro e wa ⟨rfl, hoa⟩
    have HOA := Lib.hid hoa
    clear hoa HNO
    go_wp2_with fail
    refine (HPA.out _ HOA.out).mono ?_
    rintro e wb ⟨rfl, hob⟩
    have HOB := Lib.hid (HOA.out.trans_nil hob)
    clear hob HPA HOA
    go_wp2_with fail
    refine (HTH.out _ HOB.out).mono ?_
    rintro e wc ⟨rfl, hoc⟩
    have HOC := Lib.hid (HOB.out.trans_nil hoc)
    have HOD := Lib.hid ((HOB.out.trans_nil hoc).alloc (.cells (rsnCells [x1, x2, x3]).toArray 111))
    have HD := Lib.hid (H1.out.off HOD.out)
    clear hoc HTH HOB
    go_wp2_with fail
    refine (dlay_any p wc.heap.size 3 G1 E path ⟨⟨#[]⟩, 2, ⟨#[]⟩, 0⟩ full [x1, x2, x3] _ HD.out.m HD.out.sb (rsns_blk wc [x1, x2, x3] _ rfl) rfl (by omega) (by have := HD.out.ok.inos; omega) (by have := HD.out.ok.nlen; omega) (by have := HD.out.ok.llen; omega) (by unfold maxLen; omega)).mono ?_
    rintro e w5 ⟨rfl, hL⟩
    have HL := Lib.hid hL
    clear hL
    go_wp2_with fail
    go_ret
    rw [HS2.out, HX.out]
    refine ⟨rfl, DSETo.step (HOP.out.1.trans_nil HOD.out) HOP.out.2 (HD.out.to (Off.refl _ _) HL.out ?_)⟩
    rw [← HX.out]
    exact PDisk.mkdir__ok HD.out.ok _ _
  · have HS2 := Lib.hid (show D.edited.mkdir path = (er, E) by rw [HS.out, if_pos h0])
    have hne : (er == 0) = false := beq_eq_false_iff_ne.2 h0
    clear h0
    go_wp2_with fail
    go_ret
    rw [HS2.out]
    exact ⟨rfl, HT.out.le (by omega)⟩
end Go.Proofs.YtgcfkljooabjjaaGreatDoor

/- A disk's Link: the walk. Conditions: what the contract states. -/
namespace Go.Proofs.YtgcfkljooabjjaaGreatDoor
open Go.RowKit Go.Op Go.Maps

def linkBad (q : ByteArray) : Bool := decide (q = ⟨#[]⟩) || decide (400 < q.size) || (str q).contains 0
def PDisk.link_ (D : PDisk) (full : Bool) (p q : ByteArray) : Int × PDisk := D.lay p ⟨⟨#[]⟩, 3, q, 0⟩ full [PDisk.no p, (linkBad q, 2), D.parentE p, D.there p]
def PDisk.link (D : PDisk) (p q : ByteArray) : Int × PDisk := D.call ⟨#[76, 105, 110, 107]⟩ p q fun E full => E.link_ full p q
theorem PDisk.link__ok {D : PDisk} {n : Nat} (h : Ok D n) (full : Bool) (p q : ByteArray) : Ok (D.link_ full p q).2 (n + 1) :=
  PDisk.lay_ok h _ _ _ _ (by intro x hx; simp only [List.mem_cons, List.not_mem_nil, or_false] at hx; rcases hx with rfl | rfl | rfl | rfl <;> simp [PDisk.no, PDisk.parentE, PDisk.there]) (by simp)
set_option maxRecDepth 100000 in
set_option maxHeartbeats 16000000 in
theorem dlink_callE (p n : Nat) (G : Geo) (D : PDisk) (path q : ByteArray) (w : World) (h : DSE w p G D n) (hE : EditsOk D n) (hn : n ≤ 1000000) (hs : path.size ≤ 9223372036854775807) :
    Calls Tryz.prog 73 #[.pointer (some ⟨p, 0, none⟩), .string path, .string q] w fun e w' => e = .returned (.int .i64 (D.edited.link path q).1) ∧ DSETo w p G.parts w' (D.edited.link path q).2 (n + 2) := by
  have HST := Lib.hid (dstep_twoE p n G D ⟨#[76, 105, 110, 107]⟩ path q w h hE hn)
  have HS := Lib.hid (show D.edited.link path q = match D.edited.step ⟨#[76, 105, 110, 107]⟩ path q with | (full, e, E) => if e ≠ 0 then (e, E) else E.link_ full path q from rfl)
  clear h
  generalize D.edited.step ⟨#[76, 105, 110, 107]⟩ path q = st at HST HS
  obtain ⟨full, er, E⟩ := st
  have HS := Lib.hid (show D.edited.link path q = if er ≠ 0 then (er, E) else E.link_ full path q from HS.out)
  go_enter Tryz.func73, Tryz.ntmps73
  go_wp2_with fail
  refine HST.out.mono ?_
  rintro e w1 ⟨rfl, hT⟩
  have HT := Lib.hid hT
  clear hT HST
  by_cases h0 : er = 0
  · subst h0
    have HS2 := Lib.hid (show D.edited.link path q = E.link_ full path q by rw [HS.out]; simp)
    obtain ⟨G1, h1, ho1, hp1⟩ := HT.out
    have HOP := Lib.hid (And.intro ho1 hp1)
    have H1 := Lib.hid h1
    obtain ⟨x1, hx1⟩ : ∃ x, PDisk.no path = x := ⟨_, rfl⟩
    obtain ⟨x2, hx2⟩ : ∃ x, E.parentE path = x := ⟨_, rfl⟩
    obtain ⟨x3, hx3⟩ : ∃ x, E.there path = x := ⟨_, rfl⟩
    obtain ⟨b, hb⟩ : ∃ b, linkBad q = b := ⟨_, rfl⟩
    have HB := Lib.hid hb
    have HNO := Lib.hid (dno_any path w1 h1.tabs.tabs)
    have HPA := Lib.hid (fun (W : World) (ho : Off [] w1 W) => dparent_big p G1 E path W (h1.m.off ho (by simp) (by simp)) hs (fun x => h1.ok.look (by omega) x) (h1.tabs.off ho))
    have HTH := Lib.hid (fun (W : World) (ho : Off [] w1 W) => dthere_any p G1 E path W (h1.m.off ho (by simp) (by simp)) (by unfold maxLen; omega) (h1.ok.look (by omega) path))
    have HX := Lib.hid (show E.link_ full path q = E.lay path ⟨⟨#[]⟩, 3, q, 0⟩ full [x1, (b, 2), x2, x3] by unfold PDisk.link_; rw [hx1, hx2, hx3, hb])
    rw [hx1] at HNO
    rw [hx2] at HPA
    rw [hx3] at HTH
    unfold rsn at HNO HPA HTH
    clear HS hx1 hx2 hx3 h1 ho1 hp1 hb
    go_upto_region 4 with fail
    go_cut [9] from 18 to 31 (fun s wx => s = .bool b ∧ wx = w1)
    case first =>
      by_cases hA : q = ⟨#[]⟩
      · have hb2 : b = true := by rw [← HB.out, hA]; rfl
        subst hA
        subst hb2
        clear HB
        go_wp2_with fail
        go_meet
        exact ⟨rfl, rfl⟩
      · obtain ⟨he1, he2⟩ := emp_ne hA
        by_cases hC : 400 < q.size
        · have hb2 : b = true := by rw [← HB.out]; unfold linkBad; rw [decide_eq_true hC]; simp
          have hC1 : (400 : Int) < q.size := by omega
          subst hb2
          clear HB hA hC
          go_wp2_with fail
          go_meet
          exact ⟨rfl, rfl⟩
        · have hb2 : b = (str q).contains 0 := by rw [← HB.out]; unfold linkBad; rw [decide_eq_false hC, decide_eq_false hA]; rfl
          have hC1 : ¬ (400 : Int) < q.size := by omega
          have HCT := Lib.hid (contains0_any q w1)
          rw [← hb2] at HCT
          clear HB hA hC hb2
          go_wp2_with fail
          refine HCT.out.mono ?_
          rintro e w2 ⟨rfl, rfl⟩
          go_wp2_with fail
          go_meet
          exact ⟨rfl, rfl⟩
    case rest =>
    obtain ⟨rfl, rfl⟩ := hcut
    go_wp2_with fail
    refine HNO.out.mono ?_
    rintro e wa ⟨rfl, hoa⟩
    have HOA := Lib.hid hoa
    clear hoa HNO
    go_wp2_with fail
    refine (HPA.out _ HOA.out).mono ?_
    rintro e wb ⟨rfl, hob⟩
    have HOB := Lib.hid (HOA.out.trans_nil hob)
    clear hob HPA HOA
    go_wp2_with fail
    refine (HTH.out _ HOB.out).mono ?_
    rintro e wc ⟨rfl, hoc⟩
    have HOC := Lib.hid (HOB.out.trans_nil hoc)
    have HOD := Lib.hid ((HOB.out.trans_nil hoc).alloc (.cells (rsnCells [x1, (b, 2), x2, x3]).toArray 111))
    have HD := Lib.hid (H1.out.off HOD.out)
    clear hoc HTH HOB
    go_wp2_with fail
    refine (dlay_any p wc.heap.size 4 G1 E path ⟨⟨#[]⟩, 3, q, 0⟩ full [x1, (b, 2), x2, x3] _ HD.out.m HD.out.sb (rsns_blk wc [x1, (b, 2), x2, x3] _ rfl) rfl (by omega) (by have := HD.out.ok.inos; omega) (by have := HD.out.ok.nlen; omega) (by have := HD.out.ok.llen; omega) (by unfold maxLen; omega)).mono ?_
    rintro e w5 ⟨rfl, hL⟩
    have HL := Lib.hid hL
    clear hL
    go_wp2_with fail
    go_ret
    rw [HS2.out, HX.out]
    refine ⟨rfl, DSETo.step (HOP.out.1.trans_nil HOD.out) HOP.out.2 (HD.out.to (Off.refl _ _) HL.out ?_)⟩
    rw [← HX.out]
    exact PDisk.link__ok HD.out.ok _ _ _
  · have HS2 := Lib.hid (show D.edited.link path q = (er, E) by rw [HS.out, if_pos h0])
    have hne : (er == 0) = false := beq_eq_false_iff_ne.2 h0
    clear h0
    go_wp2_with fail
    go_ret
    rw [HS2.out]
    exact ⟨rfl, HT.out.le (by omega)⟩
end Go.Proofs.YtgcfkljooabjjaaGreatDoor
