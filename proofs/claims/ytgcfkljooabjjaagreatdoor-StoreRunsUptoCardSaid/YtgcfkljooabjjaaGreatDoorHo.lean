/- Texts of this claim, one behind the other: RWant RNew RRun SaveE SaveW R10 DRuns SRuns. Conditions: what each lemma states. -/
import Derived.Test.YtgcfkljooabjjaaGreatDoorHn
import Derived.Test.YtgcfkljooabjjaaGreatDoorHl
import Derived.Test.YtgcfkljooabjjaaGreatDoorHi
import Derived.Test.YtgcfkljooabjjaaGreatDoorHh
namespace Go.Proofs.YtgcfkljooabjjaaGreatDoor
section
open Go.RowKit Go.Op Go.Maps
variable {A : RArg}
end
section
open Go.RowKit Go.Op Go.Maps
theorem new_norm {t : List Node} (hs : Sorted t) : norm (newD t) = newD t := by
  have h : PDisk.sortN (nmOf t 0) = nmOf t 0 := by
    have ha : Apart (nmOf t 0) := nmOf_apart hs
    refine List.Perm.eq_of_pairwise (le := fun a b => leN a b = true) (fun a b ha' hb' h3 h4 => ?_) (List.pairwise_mergeSort leN_trans leN_total (nmOf t 0)) ((nmOf_pair t 0 hs).imp fun {x y} hxy => ?_) (sortN_perm _)
    · have hab : order (str a.1) (str b.1) = 0 := by
        unfold leN at h3 h4; simp only [Bool.not_eq_true', decide_eq_false_iff_not] at h3 h4; rw [order_swap] at h3
        rcases order_range (str a.1) (str b.1) with h | h | h <;> omega
      exact ha.one (sortN_mem.1 ha') hb' (str_inj (order_eq hab))
    unfold leN; have := order_swap (str x.1) (str y.1); simp only [Bool.not_eq_true', decide_eq_false_iff_not]; omega
  unfold norm newD
  show ({ newD' t with names := PDisk.sortN (nmOf t 0), safe := PDisk.sortN (nmOf t 0), later := [] } : PDisk) = _
  rw [h]
  rfl
def nilA : RArg := ⟨.slice none 0 0, .slice none 0 0⟩
def ngeo (nv iv : Value) : RGeo := ⟨nv, .slice none 0 0, .slice none 0 0, [], iv, .slice none 0 0, []⟩
def newE (nm : NameL) (is : List Ino) : PDisk := ⟨nm, [], [], is, false, 0, [], [], [], .slice none 0 0⟩
theorem new_start (w : World) : RefS nilA w w.heap.size [] (w.alloc (.cells #[.slice none 0 0, .slice none 0 0, .slice none 0 0, .slice none 0 0, .bool false, .int .i64 0, .int .i64 0, .slice none 0 0, .slice none 0 0, .slice none 0 0] 69)) (ngeo (.slice none 0 0) (.slice none 0 0)) (newE [] []) :=
  ⟨⟨Blk.new w _ _, ⟨rfl, .inl ⟨rfl, rfl⟩⟩, ⟨rfl, .inl ⟨rfl, rfl⟩⟩, ⟨rfl, .inl ⟨rfl, rfl⟩⟩, fun i v l h1 _ => by simp [ngeo] at h1, ⟨rfl, .inl ⟨rfl, rfl⟩⟩, ⟨rfl, .inl ⟨rfl, rfl⟩⟩,
    ⟨⟨none, 0, rfl, Nat.le_refl _, fun h => absurd rfl h⟩, EditsAt.nil _ _⟩, fun g hg => by cases hg⟩, (Off.refl _ _).alloc _, fun b hb => by
    rcases mem_blocks.1 hb with hb | hb | hb | ⟨_, hb, _⟩ | hb | hb | hb
    all_goals simp [ngeo, Value.ownBlock] at hb⟩
theorem push_name {w W w7 : World} {p M gg cap : Nat} {nv iv : Value} {nm : NameL} {is : List Ino} {x : ByteArray × Nat} {o : Obj} (hS : RefS nilA w p [] W (ngeo nv iv) (newE nm is)) (hM : nm.length = M)
    (hown : w7.ownsRow 0 127 2 (.slice (some ⟨gg, 0, none⟩) (M + 1) cap) (M + 1) (entCells nm ++ [.string x.1, .int .i64 x.2]))
    (hg : (W.drew.alloc o).grownBy w7 nv.ownBlock) (hat : nv.ownBlock = some gg ∨ gg = W.heap.size + 1) :
    RefS nilA w p [] (w7.setCell ⟨p, 0, none⟩ (.slice (some ⟨gg, 0, none⟩) (M + 1) cap)) (ngeo (.slice (some ⟨gg, 0, none⟩) (M + 1) cap) iv) (newE (nm ++ [x]) is) := by
  have hpl : some p ≠ nv.ownBlock := own_ne hS.1.names hS.1.blk (by decide)
  have hX : Off nv.ownBlock.toList W w7 := (((Off.refl _ W).drew).alloc o).grown hg (fun k hk => .inr (by rw [hk]; simp))
  have hO : Only W nv.ownBlock.toList [127] := fun b hb => by
    obtain ⟨cs, hB⟩ := own_blks hS.1.names b hb; exact ⟨_, by simp, _, hB⟩
  have hB7 : Blk w7 p 69 (refCells nilA (ngeo nv iv) (newE nm is)) := ((hS.1.blk.drew).alloc o).grown hg hpl
  have hP : RefP w7 (ngeo (.slice (some ⟨gg, 0, none⟩) (M + 1) cap) iv) (newE (nm ++ [x]) is) :=
    ⟨by
      show w7.ownsRow 0 127 2 _ (nm ++ [x]).length (entCells (nm ++ [x]))
      rw [entCells_snoc, List.length_append, hM]; exact hown, ⟨rfl, .inl ⟨rfl, rfl⟩⟩, ⟨rfl, .inl ⟨rfl, rfl⟩⟩, fun i v l h1 _ => by simp [ngeo] at h1, hO.row hX hS.1.inos (by decide), ⟨rfl, .inl ⟨rfl, rfl⟩⟩,
      ⟨⟨none, 0, rfl, Nat.le_refl _, fun h => absurd rfl h⟩, EditsAt.nil _ _⟩, fun g hg => by cases hg⟩
  refine ⟨(hP.self hB7 ((Off.refl [p] w7).setCell (p := ⟨p, 0, none⟩) (.inr (by simp)) _)).with ?_, ?_, fun b hb => ?_⟩
  · have := hB7.set_ 0 (.slice (some ⟨gg, 0, none⟩) (M + 1) cap)
    unfold refCells ngeo newE nilA at this ⊢
    simpa using this
  · refine (hS.2.1.trans hX (fun y hy hm => ?_)).setCell (p := ⟨p, 0, none⟩) (.inr (List.mem_cons_self ..)) _
    rcases hS.2.2 y (mem_blocks.2 (.inl hm)) with h | h
    · cases h
    omega
  have hsz := hS.2.1.size
  rcases mem_blocks.1 hb with hb | hb | hb | ⟨_, hb, _⟩ | hb | hb | hb
  · simp [ngeo, Value.ownBlock] at hb
    subst hb
    rcases hat with h | h
    · exact hS.2.2 _ (mem_blocks.2 (.inl (by show _ ∈ nv.ownBlock.toList; rw [h]; simp)))
    exact .inr (by omega)
  · simp [ngeo, Value.ownBlock] at hb
  · simp [ngeo, Value.ownBlock] at hb
  · simp [ngeo] at hb
  · exact hS.2.2 b (mem_blocks.2 (.inr (.inr (.inr (.inr (.inl hb))))))
  · simp [ngeo, Value.ownBlock] at hb
  simp [ngeo] at hb
def NewAt (w : World) (t : List Node) (i : Nat) (wr : World) : Prop := ∃ nv iv, RefS nilA w w.heap.size [] wr (ngeo nv iv) (newE (nmOf (t.take i) 0) ((t.take i).map fun n => (⟨n, 0, false⟩ : Ino)))
theorem nmOf_snoc {t : List Node} {i : Nat} {x : Node} (h : t[i]? = some x) : nmOf (t.take (i + 1)) 0 = nmOf (t.take i) 0 ++ [(x.path, i + 1)] := by
  have hi := (List.getElem?_eq_some_iff.1 h).1; rw [List.take_add_one, h, show (some x).toList = [x] from rfl, nmOf_append, List.length_take, Nat.min_eq_left (by omega)]; simp [nmOf]
theorem new_end {w wr : World} {t : List Node} {nv iv : Value} (hS : RefS nilA w w.heap.size [] wr (ngeo nv iv) (newE (nmOf t 0) (t.map fun n => (⟨n, 0, false⟩ : Ino)))) (hs : Sorted t) :
    ∃ g G, Value.pointer (some ⟨w.heap.size, 0, none⟩) = .pointer (some ⟨g, 0, none⟩) ∧ RefM nilA (wr.setCell ⟨w.heap.size, 1, none⟩ nv) g G (norm (newD t)) ∧ w.heap.size ≤ g ∧ (∀ b ∈ G.blocks, w.heap.size ≤ b) ∧ Off [] w (wr.setCell ⟨w.heap.size, 1, none⟩ nv) := by
  have h2 := hS.putSafe (v := nv) hS.1.names (fun b hb => hS.2.2 b (mem_blocks.2 (.inl hb))); refine ⟨w.heap.size, { ngeo nv iv with sv := nv }, rfl, ?_, Nat.le_refl _, fun b hb => ?_, ?_⟩
  · rw [new_norm hs]
    exact h2.1
  · rcases h2.2.2 b hb with h | h
    · cases h
    exact h
  have h3 := h2.2.1; exact (Off.refl [] w).trans h3 (fun x hx hm => by simp at hm; omega)
theorem node_off7 {w w' : World} {a : Addr} {x : Node} {g : Nat} (h : NodeAt w a x) (hb : a.block < w.heap.size) (ho : Off [g] w w') (hg : w.heap.size ≤ g) : NodeAt w' a x := by
  have hn : a.block ∉ [g] := by simp; omega
  exact ⟨(ho.cell hb hn).trans h.path, (ho.cell (p := ⟨a.block, a.off + 1, none⟩) hb hn).trans h.kind, (ho.cell (p := ⟨a.block, a.off + 2, none⟩) hb hn).trans h.data, (ho.cell (p := ⟨a.block, a.off + 3, none⟩) hb hn).trans h.mode⟩
set_option maxRecDepth 100000 in
set_option maxHeartbeats 16000000 in
theorem r7new_ok (pp : Option Addr) (t : List Node) (n c : Nat) (w : World) (hR : Row w pp t) (hn : t.length = n) (hok : okTree t = true) (hF : Fits1 t) :
    Calls Tryz.prog 26 #[.slice pp n c] w fun e w' => ∃ g G, e = .returned (.tuple #[.pointer (some ⟨g, 0, none⟩), .int .i64 0]) ∧ RefM nilA w' g G (norm (newD t)) ∧ w.heap.size ≤ g ∧ (∀ b ∈ G.blocks, w.heap.size ≤ b) ∧ Off [] w w' := by
  obtain ⟨i0, hi0, hz0, hz1, hz2⟩ := info_parts infoIno; obtain ⟨i1, hi1, hy0, hy1, hy2⟩ := info_parts infoEnt; have hbig : n ≤ 1000 := by rw [← hn]; exact okTree_len hok
  have HCK := Lib.hid (rcheck_v pp t n c w hR hn (by omega) hF 0 (by unfold chkV; rw [hok]; rfl)); have HR := Lib.hid hR; have HN := Lib.hid hn; have HSO := Lib.hid (okTree_sorted hok); clear hR hn hok hF
  go_enter Tryz.func26, Tryz.ntmps26
  go_wp2_with fail
  refine HCK.out.mono ?_
  rintro e w0 ⟨rfl, ho0⟩; have HO0 := Lib.hid ho0; have HR0 := Lib.hid (HR.out.off ho0); clear ho0 HCK
  go_upto_region 4 with fail
  refine code_gen (fun W => NewAt w0 t 0 W) ⟨_, _, new_start w0⟩ ?_
  rintro W hA; have HST := Lib.hid hA; clear hA
  go_wp2_with fail
  go_loopw [5] (fun x wr => ∃ i : Nat, x = .int .i64 i ∧ i ≤ n ∧ Hid (NewAt w0 t i wr)) (fun x _ => n - (intOf x).toNat)
  case atStart => exact ⟨0, rfl, by omega, HST⟩
  case round =>
    clear HST; obtain ⟨i, rfl, hi, HI⟩ := hrel; obtain ⟨nv, iv, hS⟩ := HI.out
    by_cases hlt : i < n
    · have hil : i < t.length := by rw [HN.out]; exact hlt
      obtain ⟨a, rfl, hna0, hab0⟩ := HR0.out.get i hil; have hxi := List.getElem?_eq_getElem hil; generalize t[i] = x at *; have HX := Lib.hid hxi; have HNM := Lib.hid (nmOf_snoc hxi); have HIS := Lib.hid (show (t.take (i + 1)).map (fun n => (⟨n, 0, false⟩ : Ino)) = (t.take i).map (fun n => (⟨n, 0, false⟩ : Ino)) ++ [⟨x, 0, false⟩] by rw [List.take_add_one, hxi, List.map_append]; rfl)
      have HML := Lib.hid (show ((t.take i).map (fun n => (⟨n, 0, false⟩ : Ino))).length = i by rw [List.length_map, List.length_take]; omega); have HNL := Lib.hid (show (nmOf (t.take i) 0).length = i by rw [nmOf_len, List.length_take]; omega); generalize nmOf (t.take i) 0 = nm at *; generalize (t.take i).map (fun n => (⟨n, 0, false⟩ : Ino)) = is at *; have HS := Lib.hid hS
      have HNA := Lib.hid (fun (W : World) (ho : Off [w0.heap.size] w0 W) => node_off7 hna0 (by rw [add_block]; exact hab0) ho (Nat.le_refl _)); have hna := HNA.out wr hS.2.1; have hab := Nat.lt_of_lt_of_le hab0 hS.2.1.size; obtain ⟨pi, ci, hiv, -, -, -⟩ := own_at hS.1.inos; have hiv : iv = .slice pi is.length ci := hiv
      rw [HML.out] at hiv; subst hiv; obtain ⟨pn, cn, hnv, -, -, -⟩ := own_at hS.1.names; have hnv : nv = .slice pn nm.length cn := hnv
      rw [HNL.out] at hnv; subst hnv; have hB := hS.1.blk; have hc := hB.cell; have hf := hB.frozen; have hlp := hB.lt; unfold refCells ngeo newE nilA at hc; dsimp only at hc; have c0 := hna.path; have c1 := hna.kind; have c2 := hna.data; have c3 := hna.mode; have hab2 : (a.add (i * 4)).block < wr.heap.size := by rw [add_block]; exact hab
      have hown6 : (wr.drew.alloc (.cells #[.int .i64 x.kind, .int .i64 x.mode, .int .i64 0, .string x.data, .bool false] 125)).ownsRow 0 125 5 (.slice pi i ci) i (rinoCells is) := by
        have := own_offk (k := []) hS.1.inos ((Off.refl [] wr).drew.alloc (.cells #[.int .i64 x.kind, .int .i64 x.mode, .int .i64 0, .string x.data, .bool false] 125)) (by simp); have this : World.ownsRow _ 0 125 5 (.slice pi i ci) is.length (rinoCells is) := this
        rw [HML.out] at this; exact this
      have HW6 := Lib.hid hown6; have HPL := Lib.hid (show some w0.heap.size ≠ (Value.slice pi i ci).ownBlock from own_ne hown6 (hB.drew.alloc _) (by decide)); have HBP := Lib.hid (hB.drew.alloc (.cells #[.int .i64 x.kind, .int .i64 x.mode, .int .i64 0, .string x.data, .bool false] 125)); have hilt : (i : Int) < n := by omega
      have HAB := Lib.hid hab0; clear hS hB hown6 hna hna0 hab0 hxi HI
      go_wp2_with fail
      go_cut [] from 17 to 41 (fun wx => ∃ iv', RefS nilA w0 w0.heap.size [] wx (ngeo (.slice pn i cn) iv') (newE nm (is ++ [⟨x, 0, false⟩])))
      case first =>
        go_region_law ((refine step_append_lies _ (by rfl) _ _ _ (by rfl) 0 125 i0 _ 5 48 Tryz.underlying66 hi0 hz0 hz1 hz2 rfl (by decide) _ i _ (by rfl) HW6.out ⟨wr.heap.size, 0, none⟩ 1 1 [_, _, _, _, _] (by rfl) (by rfl) (five_at (Blk.new wr.drew _ _)) (by simp [Value.oneCell']) (by omega) (by unfold maxLen; omega) (by omega) (by simp) (wr.heap.size + 1) (by simp) ?_; intro gg cap w7 hown7 hgrow7 hat7 hlt7; have hB7 := HBP.out.grown hgrow7 HPL.out; have hc7 := hB7.cell; have hf7 := hB7.frozen; unfold refCells ngeo newE nilA at hc7))
        all_goals go_wp2_with fail
        all_goals go_meet
        all_goals exact ⟨_, push_ino (G := ngeo (.slice pn i cn) (.slice pi i ci)) (E := newE nm is) (n := ⟨x, 0, false⟩) HS.out HML.out (by assumption) (by assumption) (by assumption)⟩
      case rest =>
        obtain ⟨iv', hS3⟩ := hcut; have HS3 := Lib.hid hS3; have hna := HNA.out wc hS3.2.1; have hab3 : (a.add (i * 4)).block < wc.heap.size := by
          have := hS3.2.1.size; have h2 := HS.out.2.1.size; have h3 := HAB.out; rw [add_block]; omega
        have hB := hS3.1.blk; clear hc hf hlp c0 c1 c2 c3 hab2 HW6 HPL HBP hab; have hc := hB.cell; have hf := hB.frozen; have hlp := hB.lt; unfold refCells ngeo newE nilA at hc; dsimp only at hc; have c0 := hna.path; have hown6 : (wc.drew.alloc (.cells #[.string x.path, .int .i64 ((i : Int) + 1)] 127)).ownsRow 0 127 2 (.slice pn i cn) i (entCells nm) := by
          have := own_offk (k := []) hS3.1.names ((Off.refl [] wc).drew.alloc (.cells #[.string x.path, .int .i64 ((i : Int) + 1)] 127)) (by simp); have this : World.ownsRow _ 0 127 2 (.slice pn i cn) nm.length (entCells nm) := this
          rw [HNL.out] at this; exact this
        have HW6 := Lib.hid hown6; have HPL := Lib.hid (show some w0.heap.size ≠ (Value.slice pn i cn).ownBlock from own_ne hown6 (hB.drew.alloc _) (by decide)); have HBP := Lib.hid (hB.drew.alloc (.cells #[.string x.path, .int .i64 ((i : Int) + 1)] 127)); have hwi : IntKind.i64.wrap ((i : Int) + 1) = (i : Int) + 1 := IntWalk.i64_in _ (by omega)
        clear hS3 hB hown6 hna
        go_wp2_with fail
        go_region_law ((refine step_append_lies _ (by rfl) _ _ _ (by rfl) 0 127 i1 _ 2 24 Tryz.underlying64 hi1 hy0 hy1 hy2 rfl (by decide) _ i _ (by rfl) HW6.out ⟨wc.heap.size, 0, none⟩ 1 1 [_, _] (by rfl) (by rfl) (cell_two_at (Blk.new wc.drew _ _)) (by simp [Value.oneCell']) (by omega) (by unfold maxLen; omega) (by omega) (by simp) (wc.heap.size + 1) (by simp) ?_; intro gg cap w7 hown7 hgrow7 hat7 hlt7; have hB7 := HBP.out.grown hgrow7 HPL.out; have hc7 := hB7.cell; have hf7 := hB7.frozen; unfold refCells ngeo newE nilA at hc7))
        all_goals go_wp2_with fail
        all_goals refine ⟨⟨i + 1, by congr 1, by omega, Lib.hid ⟨.slice (some ⟨gg, 0, none⟩) (i + 1) cap, iv', ?_⟩⟩, by simp only [intOf]; omega⟩
        all_goals rw [HNM.out, HIS.out]
        all_goals exact push_name (x := (x.path, i + 1)) HS3.out HNL.out (by assumption) (by assumption) (by assumption)
    obtain rfl : i = n := by omega
    have HTK := Lib.hid (show t.take i = t from List.take_of_length_le (by rw [HN.out]; exact Nat.le_refl _)); rw [HTK.out] at hS; have HS := Lib.hid hS; obtain ⟨pn, cn, hnv, -, -, -⟩ := own_at hS.1.names; have hnv : nv = .slice pn (nmOf t 0).length cn := hnv
    rw [nmOf_len, HN.out] at hnv; subst hnv; have hB := hS.1.blk; have hc := hB.cell; have hf := hB.frozen; have hlp := hB.lt; unfold refCells ngeo newE nilA at hc; dsimp only at hc; clear hS hB HI
    go_wp2_with fail
    go_ret2
    obtain ⟨g, G, h1, h2, h3, h4, h5⟩ := new_end HS.out HSO.out; refine ⟨g, G, by rw [← h1]; rfl, h2, Nat.le_trans HO0.out.size h3, fun b hb => Nat.le_trans HO0.out.size (h4 b hb), HO0.out.trans_nil h5⟩
set_option maxRecDepth 100000 in
set_option maxHeartbeats 4000000 in
theorem r7new_bad (pp : Option Addr) (t : List Node) (n c : Nat) (w : World) (hR : Row w pp t) (hn : t.length = n) (hb : n ≤ 1099511627776) (hok : okTree t = false) (hF : Fits1 t) :
    Calls Tryz.prog 26 #[.slice pp n c] w fun e w' => e = .returned (.tuple #[.pointer none, .int .i64 60]) ∧ Off [] w w' := by
  have HCK := Lib.hid (rcheck_v pp t n c w hR hn hb hF 60 (by unfold chkV; rw [hok]; rfl)); clear hR hn hok hF
  go_enter Tryz.func26, Tryz.ntmps26
  go_wp2_with fail
  refine HCK.out.mono ?_
  rintro e w0 ⟨rfl, ho0⟩
  go_wp2_with fail
  go_ret2
  exact ⟨rfl, ho0⟩
end
section
open Go.RowKit Go.Op Go.Maps
set_option maxRecDepth 100000 in
set_option maxHeartbeats 4000000 in
theorem tclone7 (v : Value) (fs : List DidP) (w : World) (hR : w.ownsRow 0 73 3 v fs.length (didCells fs)) (hbig : fs.length ≤ 1000000000) :
    Calls Tryz.prog 71 #[v] w fun e w' => ∃ v, e = .returned v ∧ w'.ownsRow w.heap.size 73 3 v fs.length (didCells fs) ∧ Off [] w w' := by
  obtain ⟨n, hn⟩ : ∃ n, fs.length = n := ⟨_, rfl⟩
  rw [hn] at hR hbig; rw [hn]; obtain ⟨i0, hi0, hz0, hz1, hz2⟩ := info_parts infoDid; have q22 : ∀ (w : World) (a : Option Addr) (n c n' c' : Nat), (binOp .eql 67 (.slice a n c) (.slice none n' c')).run Tryz.prog w = .ok (.bool a.isNone) w := fun w a n c n' c' => Lib.run_eql_slice_nil w _ _ a n c n' c' Tryz.underlying67
  have hl := hR.1
  rcases hR.2 with ⟨rfl, h0⟩ | ⟨g, cap, cur, rfl, hb, hh, hc, _, hsz, ht⟩
  · subst h0
    obtain rfl : fs = [] := List.length_eq_zero_iff.1 hn
    clear hR
    go_enter Tryz.func71, Tryz.ntmps71
    go_wp2_with fail
    go_ret
    exact ⟨_, rfl, ⟨rfl, .inl ⟨rfl, rfl⟩⟩, Off.refl _ _⟩
  have HC := Lib.hid (show ∀ (j : Nat) (u : Value), (didCells fs)[j]? = some u → w.cell? ((⟨g, 0, none⟩ : Addr).add j) = some u from fun j u hj => by
    have hB : Blk w g 73 cur := hh
    rw [addr_add, hB.cell]; rw [← ht, List.getElem?_take] at hj
    split at hj
    · simpa using hj
    cases hj)
  have HO := Lib.hid (did_one fs); have HCL := Lib.hid (show (didCells fs).length = n * 3 by rw [did_len, hn]); clear hR hn hl hb hh hc hsz ht
  go_enter Tryz.func71, Tryz.ntmps71
  go_wp2_with (at_builtin; refine wpList_append_own _ rfl _ _ 67 rfl w.heap.size 73 i0 _ 3 48 Tryz.underlying67 hi0 hz0 hz1 hz2 rfl (by decide) _ _ _ rfl (World.ownsRow_made w #[] 0 (Nat.le_refl _) (Nat.zero_le _) rfl) (⟨g, 0, none⟩ : Addr) n cap (didCells fs) rfl HCL.out ?qc2 HO.out ?qc4 ?qc5 ?qc6 ?_)
  case qc2 =>
    intro j u hj
    exact Lib.cell?_alloc_some _ (HC.out j u hj)
  case qc4 => unfold maxLen; omega
  case qc5 => omega
  case qc6 => simp
  intro v' w1 hown hgrow hnil
  go_wp2_with fail
  go_ret
  refine ⟨v', rfl, by simpa using hown, ?_⟩
  exact ((Off.refl _ w).alloc _).grown hgrow (by intro k hk; simp [Value.ownBlock] at hk; omega)
set_option maxRecDepth 100000 in
set_option maxHeartbeats 4000000 in
theorem dtrace_callE (p n : Nat) (G : Geo) (D : PDisk) (w : World) (h : DSE w p G D n) (hn : n ≤ 40000000) : Calls Tryz.prog 34 #[.pointer (some ⟨p, 0, none⟩)] w fun e w' => ∃ v, e = .returned v ∧ w'.ownsRow w.heap.size 73 3 v D.trace.length (didCells D.trace) ∧ Off [] w w' := by
  have HCL := Lib.hid (tclone7 G.tv D.trace w h.m.parts.trace (by have := h.ok.tlen; omega)); have hc0 := h.m.blk.cell; unfold diskCells at hc0; clear h
  go_enter Tryz.func34, Tryz.ntmps34
  go_wp2_with fail
  refine HCL.out.mono ?_
  rintro e w1 ⟨v, rfl, hown, ho⟩
  go_wp2_with fail
  go_ret
  exact ⟨v, rfl, hown, ho⟩
set_option maxRecDepth 100000 in
theorem dsteps_callE (p n : Nat) (G : Geo) (D : PDisk) (w : World) (h : DSE w p G D n) : Calls Tryz.prog 31 #[.pointer (some ⟨p, 0, none⟩)] w fun e w' => e = .returned (.int .i64 D.trace.length) ∧ Off [] w w' := by
  obtain ⟨pt, ct, htv⟩ := row_len h.m.parts.trace; have hc := h.m.blk.cell; unfold diskCells at hc; rw [htv] at hc; generalize D.trace.length = T at hc ⊢; clear h htv
  go_enter Tryz.func31, Tryz.ntmps31
  go_wp2_with fail
  go_ret
  exact ⟨rfl, Off.refl _ _⟩
theorem RunE.wrote7 {w0 w w' : World} {p n : Nat} {D : PDisk} {k l k' : List Nat} (h : RunE w0 w p D n k) (hT : Tabs w0) (ho : Off l w w') (hl : ∀ b ∈ l, b ∈ k ∧ w0.heap.size ≤ b) (hk : ∀ b ∈ k', b ∈ k ∨ (w.heap.size ≤ b ∧ b < w'.heap.size)) : RunE w0 w' p D n k' := by
  obtain ⟨G, h1, h2, h3, h4, h5⟩ := h; have ho2 : Off [] w0 w' := h2.trans ho (fun x hx hm => by have := (hl x hm).2; omega)
  refine ⟨G, ⟨h1.m.off ho (fun hm => (h5 p (hl p hm).1).2 (List.mem_cons_self ..)) (fun b hb hm => (h5 b (hl b hm).1).2 (List.mem_cons_of_mem _ hb)), h1.sb, h1.ok, TabsX.of hT ho2 h3 h4⟩, ho2, h3, h4, fun b hb => ?_⟩
  rcases hk b hb with h6 | ⟨h6, h7⟩
  · exact ⟨Nat.lt_of_lt_of_le (h5 b h6).1 ho.size, (h5 b h6).2⟩
  refine ⟨h7, fun hm => ?_⟩
  rcases List.mem_cons.1 hm with rfl | hm
  · have := h1.m.blk.lt; omega
  have := h1.m.parts.lt hm; omega
theorem RefM.kept {A : RArg} {w w' : World} {p : Nat} {G : RGeo} {E : PDisk} (h : RefM A w p G E) (hk : Kept (p :: G.blocks) w w') : RefM A w' p G E where
  blk := hk.blk h.blk (List.mem_cons_self ..)
  names := hk.row h.names fun b hm => List.mem_cons_of_mem _ (mem_blocks.2 (.inl hm))
  safe := hk.row h.safe fun b hm => List.mem_cons_of_mem _ (mem_blocks.2 (.inr (.inl hm)))
  later := hk.row h.later fun b hm => List.mem_cons_of_mem _ (mem_blocks.2 (.inr (.inr (.inl hm))))
  laters := fun i v l h1 h2 => hk.row (h.laters i v l h1 h2) fun b hm => List.mem_cons_of_mem _ (mem_blocks.2 (.inr (.inr (.inr (.inl ⟨v, List.mem_of_getElem? h1, hm⟩)))))
  inos := hk.row h.inos fun b hm => List.mem_cons_of_mem _ (mem_blocks.2 (.inr (.inr (.inr (.inr (.inl hm))))))
  trace := hk.row h.trace fun b hm => List.mem_cons_of_mem _ (mem_blocks.2 (.inr (.inr (.inr (.inr (.inr (.inl hm)))))))
  fates := ⟨⟨none, 0, rfl, Nat.le_refl _, fun h => absurd rfl h⟩, EditsAt.nil _ _⟩
  fbl := fun g hg => by
    obtain ⟨t, cs, hB, hW⟩ := h.fbl g hg; exact ⟨t, cs, hk.blk hB (List.mem_cons_of_mem _ (mem_blocks.2 (.inr (.inr (.inr (.inr (.inr (.inr hg)))))))), hW⟩
structure Pair (w0 w : World) (gd gr : Nat) (D E : PDisk) (n : Nat) (A : RArg) (G : RGeo) (kx : List Nat) : Prop where
  run : RunE w0 w gd E n ((gr :: G.blocks) ++ kx)
  ref : RefM A w gr G (norm D)
  base : ∀ b ∈ gr :: G.blocks, w0.heap.size ≤ b
  arg : FArg w0 A.fv D.fates ∧ EArg w0 A.ev D.edits
  far : ∀ b ∈ kx, b ∉ gr :: G.blocks
section
variable {w0 w w' : World} {gd gr n m C : Nat} {D E : PDisk} {A : RArg} {G : RGeo} {kx k' : List Nat}
theorem Pair.lt (h : Pair w0 w gd gr D E n A G kx) {b : Nat} (hb : b ∈ gr :: G.blocks) : b < w.heap.size := by
  rcases List.mem_cons.1 hb with rfl | hb
  · exact h.ref.blk.lt
  exact h.ref.lt hb
theorem Pair.more (h : Pair w0 w gd gr D E n A G kx) (ho : Off [] w w') (hk : ∀ b ∈ k', w.heap.size ≤ b ∧ b < w'.heap.size) : Pair w0 w' gd gr D E n A G (k' ++ kx) :=
  ⟨(h.run.more ho hk).drop (fun b hb => by
      rcases List.mem_append.1 hb with hb | hb
      · exact List.mem_append_right _ (List.mem_append_left _ hb)
      rcases List.mem_append.1 hb with hb | hb
      · exact List.mem_append_left _ hb
      exact List.mem_append_right _ (List.mem_append_right _ hb)), h.ref.off_nil ho, h.base, h.arg, fun b hb hm => by
    rcases List.mem_append.1 hb with hb | hb
    · have := h.lt hm
      have := (hk b hb).1; omega
    exact h.far b hb hm⟩
theorem Pair.off (h : Pair w0 w gd gr D E n A G kx) (ho : Off [] w w') : Pair w0 w' gd gr D E n A G kx := h.more (k' := []) ho (fun b hb => by cases hb)
theorem Pair.drop (h : Pair w0 w gd gr D E n A G kx) (hk : ∀ b ∈ k', b ∈ kx) : Pair w0 w gd gr D E n A G k' :=
  ⟨h.run.drop (fun b hb => by
      rcases List.mem_append.1 hb with hb | hb
      · exact List.mem_append_left _ hb
      exact List.mem_append_right _ (hk b hb)), h.ref, h.base, h.arg, fun b hb => h.far b (hk b hb)⟩
theorem Pair.le (h : Pair w0 w gd gr D E n A G kx) (hm : n ≤ m) : Pair w0 w gd gr D E m A G kx := ⟨h.run.le hm, h.ref, h.base, h.arg, h.far⟩
theorem Pair.steps (h : Pair w0 w gd gr D E n A G kx) : Calls Tryz.prog 31 #[.pointer (some ⟨gd, 0, none⟩)] w fun e w' => e = .returned (.int .i64 E.trace.length) ∧ Off [] w w' := by
  obtain ⟨G1, h1, -⟩ := h.run; exact dsteps_callE gd n G1 E w h1
theorem Pair.trace (h : Pair w0 w gd gr D E n A G kx) (hn : n ≤ 40000000) : Calls Tryz.prog 34 #[.pointer (some ⟨gd, 0, none⟩)] w fun e w' => ∃ v, e = .returned v ∧ w'.ownsRow w.heap.size 73 3 v E.trace.length (didCells E.trace) ∧ Off [] w w' := by
  obtain ⟨G1, h1, -⟩ := h.run; exact dtrace_callE gd n G1 E w h1 hn
theorem Pair.tree (h : Pair w0 w gd gr D E n A G kx) (hn : n ≤ 40000000) : Calls Tryz.prog 24 #[.pointer (some ⟨gd, 0, none⟩)] w fun e w' => ∃ v, e = .returned v ∧ w'.ownsRow w.heap.size 30 4 v E.tree.length (cellsOf E.tree) ∧ Off [] w w' :=
  (runC_tree h.run hn).mono fun _ _ ⟨⟨v, he, hr⟩, _, ho⟩ => ⟨v, he, hr, ho⟩
theorem Pair.rtree (h : Pair w0 w gd gr E E n A G kx) (hf : Fine E m) : Calls Tryz.prog 33 #[.pointer (some ⟨gr, 0, none⟩)] w fun e w' => ∃ v, e = .returned v ∧ w'.ownsRow w.heap.size 30 4 v E.tree.length (cellsOf E.tree) ∧ Off [] w w' := by
  have := r7tree_any gr G (norm E) w h.ref (fun x hx => by
    obtain ⟨m, h1, -⟩ := hf.ok.inode hf.good.names (sortN_mem.1 hx); exact ⟨m, h1⟩) (by
    show (PDisk.sortN E.names).length ≤ _
    rw [sortN_len]; have := hf.ok.nlen; omega)
  rw [norm_tree] at this; exact this
end
end
section
open Go.RowKit Go.Op Go.Maps
def untilE : List CallP → PDisk → Int × PDisk
  | [], D => (0, D)
  | c :: cs, D => if (askE D c).1.err ≠ 0 then ((askE D c).1.err, (askE D c).2) else untilE cs (askE D c).2
def sWr (b text : ByteArray) : CallP := ⟨0, b, ⟨#[]⟩, text, 384⟩
def sSy (b : ByteArray) : CallP := ⟨6, b, ⟨#[]⟩, ⟨#[]⟩, 0⟩
def sRp (b path : ByteArray) : CallP := ⟨5, b, path, ⟨#[]⟩, 0⟩
def sRm (path : ByteArray) : CallP := ⟨3, path, ⟨#[]⟩, ⟨#[]⟩, 0⟩
def sFl : CallP := ⟨7, ⟨#[]⟩, ⟨#[]⟩, ⟨#[]⟩, 0⟩
def sGt (path : ByteArray) : CallP := ⟨8, path, ⟨#[]⟩, ⟨#[]⟩, 0⟩
def saveL (path text : ByteArray) : List CallP := [sWr (besideP path) text, sSy (besideP path), sRp (besideP path) path, sFl]
def clearL (path : ByteArray) : List CallP := [sRm path, sFl]
def saveE (D : PDisk) (path text : ByteArray) : Int × PDisk := untilE (saveL path text) D
def clearE (D : PDisk) (path : ByteArray) : Int × PDisk := (if (untilE (clearL path) D).1 = 74 then 0 else (untilE (clearL path) D).1, (untilE (clearL path) D).2)
def loadE (D : PDisk) (path : ByteArray) : (ByteArray × Bool × Int) × PDisk :=
  if (D.edited.get path).1.1 = 74 then ((⟨#[]⟩, false, 0), (D.edited.get path).2) else if (D.edited.get path).1.1 ≠ 0 then ((⟨#[]⟩, false, (D.edited.get path).1.1), (D.edited.get path).2) else
    if (D.edited.get path).1.2.1.kind ≠ 1 then ((⟨#[]⟩, false, 73), (D.edited.get path).2) else (((D.edited.get path).1.2.1.data, true, 0), (D.edited.get path).2)
theorem askE_gt (D : PDisk) (path : ByteArray) : (askE D (sGt path)).2 = (D.edited.get path).2 := rfl
structure InvE (C : Nat) (D : PDisk) (n : Nat) : Prop where
  fine : Fine D n
  rd : RdC C D
  slim : Slim D
section
variable {C n m : Nat} {D : PDisk}
theorem InvE.ask (h : InvE C D n) (c : CallP) (h1 : c.data.size ≤ maxLen) (h2 : c.to_.size ≤ maxLen) (hk : Ok (askE D c).2 m) : InvE C (askE D c).2 m :=
  ⟨fineC_ask h.fine h.rd.edc c h1 h2 hk, rdC_ask h.rd c, slim_askE h.slim c⟩
theorem InvE.le (h : InvE C D n) (hm : n ≤ m) : InvE C D m := ⟨h.fine.mono hm, h.rd, h.slim⟩
theorem untilE_snoc : ∀ {l : List CallP} {D D' : PDisk} (c : CallP), untilE l D = (0, D') → untilE (l ++ [c]) D = ((askE D' c).1.err, (askE D' c).2)
  | [], D, D', c, h => by
    have e : D = D' := (Prod.mk.inj h).2
    subst e
    show (if (askE D c).1.err ≠ 0 then _ else (0, (askE D c).2)) = _
    by_cases h0 : (askE D c).1.err = 0
    · rw [if_neg (by rw [h0]; decide), h0]
    rw [if_pos h0]
  | x :: l, D, D', c, h => by
    have h : (if (askE D x).1.err ≠ 0 then ((askE D x).1.err, (askE D x).2) else untilE l (askE D x).2) = (0, D') := h
    show (if (askE D x).1.err ≠ 0 then ((askE D x).1.err, (askE D x).2) else untilE (l ++ [c]) (askE D x).2) = _
    by_cases h0 : (askE D x).1.err = 0
    · rw [if_neg (by rw [h0]; decide)] at h ⊢
      exact untilE_snoc c h
    rw [if_pos h0] at h; exact absurd (Prod.mk.inj h).1 h0
theorem untilE_stop : ∀ {l : List CallP} {D D' : PDisk} (r : List CallP), untilE l D = (0, D') → untilE (l ++ r) D = untilE r D'
  | [], D, D', r, h => by
    have e : D = D' := (Prod.mk.inj h).2
    subst e
    rfl
  | x :: l, D, D', r, h => by
    have h : (if (askE D x).1.err ≠ 0 then ((askE D x).1.err, (askE D x).2) else untilE l (askE D x).2) = (0, D') := h
    show (if (askE D x).1.err ≠ 0 then ((askE D x).1.err, (askE D x).2) else untilE (l ++ r) (askE D x).2) = _
    by_cases h0 : (askE D x).1.err = 0
    · rw [if_neg (by rw [h0]; decide)] at h ⊢
      exact untilE_stop r h
    rw [if_pos h0] at h; exact absurd (Prod.mk.inj h).1 h0
theorem flush_err (D : PDisk) : D.flush.1 ≠ 74 := by
  unfold PDisk.flush PDisk.call PDisk.step
  split
  rename_i full e E h
  split
  · rename_i h0
    split at h
    · simp only [Prod.mk.injEq] at h
      obtain ⟨-, rfl, -⟩ := h; exact (by decide : (75 : Int) ≠ 74)
    dsimp only at h
    split at h
    · simp only [Prod.mk.injEq] at h
      obtain ⟨-, rfl, -⟩ := h; exact absurd rfl h0
    split at h
    · simp only [Prod.mk.injEq] at h
      obtain ⟨-, rfl, -⟩ := h; exact (by decide : (75 : Int) ≠ 74)
    split at h
    · simp only [Prod.mk.injEq] at h
      obtain ⟨-, rfl, -⟩ := h; exact (by decide : (70 : Int) ≠ 74)
    simp only [Prod.mk.injEq] at h
    obtain ⟨-, rfl, -⟩ := h; exact absurd rfl h0
  exact (by decide : (0 : Int) ≠ 74)
end
set_option maxRecDepth 100000 in
theorem besideE_any (path : ByteArray) (w : World) (hs : path.size ≤ 2000000) : Calls Tryz.prog 57 #[.string path] w fun e w' => e = .returned (.string (besideP path)) ∧ Off [] w w' := by
  unfold besideP
  go_enter Tryz.func57, Tryz.ntmps57
  go_wp2_with fail
  go_ret
  exact ⟨rfl, Off.refl _ _⟩
section
variable {w0 w W : World} {p n C : Nat} {D : PDisk} {k : List Nat}
def StepE (w0 W : World) (p n C : Nat) (D : PDisk) (k : List Nat) (c : CallP) (f : FuncId) (args : Array Value) : Prop :=
  Calls Tryz.prog f args W fun e w' => e = .returned (.int .i64 (askE D c).1.err) ∧ RunE w0 w' p (askE D c).2 (n + C + 2) k ∧ Kept k W w'
theorem RunE.callC {f : FuncId} {args : Array Value} {R : Ending → Prop} {D' : PDisk} (h : RunE w0 W p D n k) (hI : InvE C D n) (hc : ∀ G, DSE W p G D (n + C) → EditsOk D (n + C) → Calls Tryz.prog f args W fun e w' => R e ∧ DSETo W p G.parts w' D' (n + C + 2)) :
    Calls Tryz.prog f args W fun e w' => R e ∧ RunE w0 w' p D' (n + C + 2) k ∧ Kept k W w' :=
  (h.le (show n ≤ n + C by omega)).call (R := fun e _ => R e) fun G hG => hc G hG (hI.rd.edc.eok hI.fine)
set_option maxRecDepth 100000 in
theorem esave1_any (gd gb gt : Nat) (b text : ByteArray) (h : RunE w0 W p D n k) (hI : InvE C D n) (hn : n + C ≤ 40000000) (hs : b.size ≤ 2000000) (hd : Blk W gd 25 #[.pointer (some ⟨p, 0, none⟩)]) (hb : Blk W gb 9 #[.string b]) (ht : Blk W gt 9 #[.string text]) :
    StepE w0 W p n C D k (sWr b text) 59 #[.pointer (some ⟨gd, 0, none⟩), .pointer (some ⟨gb, 0, none⟩), .pointer (some ⟨gt, 0, none⟩)] := by
  have HC := Lib.hid (RunE.callC (R := fun e => e = .returned (.int .i64 (D.edited.write b text 384).1)) h hI fun G hG hE => dwrite_callE p (n + C) G D b text 384 W hG hE (by omega) (by omega)); have hc1 := hd.cell; have hc2 := hb.cell; have hc3 := ht.cell; have hl1 := hd.lt; have hl2 := hb.lt; have hl3 := ht.lt; clear h hI hd hb ht; unfold StepE
  go_enter Tryz.func59, Tryz.ntmps59
  go_wp2_with fail
  refine HC.out.mono ?_
  rintro e w2 ⟨rfl, hT⟩; have HT := Lib.hid hT; clear hT
  go_wp2_with fail
  go_ret
  exact ⟨rfl, HT.out⟩
set_option maxRecDepth 100000 in
theorem esave2_any (gd gb : Nat) (b : ByteArray) (h : RunE w0 W p D n k) (hI : InvE C D n) (hn : n + C ≤ 40000000) (hs : b.size ≤ 2000000) (hd : Blk W gd 25 #[.pointer (some ⟨p, 0, none⟩)]) (hb : Blk W gb 9 #[.string b]) :
    StepE w0 W p n C D k (sSy b) 60 #[.pointer (some ⟨gd, 0, none⟩), .pointer (some ⟨gb, 0, none⟩)] := by
  have HC := Lib.hid (RunE.callC (R := fun e => e = .returned (.int .i64 (D.edited.sync b).1)) h hI fun G hG hE => dsync_callE p (n + C) G D b W hG hE (by omega) (by omega)); have hc1 := hd.cell; have hc2 := hb.cell; have hl1 := hd.lt; have hl2 := hb.lt; clear h hI hd hb; unfold StepE
  go_enter Tryz.func60, Tryz.ntmps60
  go_wp2_with fail
  refine HC.out.mono ?_
  rintro e w2 ⟨rfl, hT⟩; have HT := Lib.hid hT; clear hT
  go_wp2_with fail
  go_ret
  exact ⟨rfl, HT.out⟩
set_option maxRecDepth 100000 in
theorem esave3_any (gd gb gt : Nat) (b path : ByteArray) (h : RunE w0 W p D n k) (hI : InvE C D n) (hn : n + C ≤ 40000000) (hs : b.size ≤ 2000000) (hp : path.size ≤ 2000000) (hd : Blk W gd 25 #[.pointer (some ⟨p, 0, none⟩)]) (hb : Blk W gb 9 #[.string b]) (ht : Blk W gt 9 #[.string path]) :
    StepE w0 W p n C D k (sRp b path) 61 #[.pointer (some ⟨gd, 0, none⟩), .pointer (some ⟨gb, 0, none⟩), .pointer (some ⟨gt, 0, none⟩)] := by
  have HC := Lib.hid (RunE.callC (R := fun e => e = .returned (.int .i64 (D.edited.replace b path).1)) h hI fun G hG hE => dreplace_callE p (n + C) G D b path W hG hE (by omega) (by omega) (by omega)); have hc1 := hd.cell; have hc2 := hb.cell; have hc3 := ht.cell; have hl1 := hd.lt; have hl2 := hb.lt; have hl3 := ht.lt; clear h hI hd hb ht; unfold StepE
  go_enter Tryz.func61, Tryz.ntmps61
  go_wp2_with fail
  refine HC.out.mono ?_
  rintro e w2 ⟨rfl, hT⟩; have HT := Lib.hid hT; clear hT
  go_wp2_with fail
  go_ret
  exact ⟨rfl, HT.out⟩
set_option maxRecDepth 100000 in
theorem eclear1_any (gd gb : Nat) (path : ByteArray) (h : RunE w0 W p D n k) (hI : InvE C D n) (hn : n + C ≤ 40000000) (hs : path.size ≤ 2000000) (hd : Blk W gd 25 #[.pointer (some ⟨p, 0, none⟩)]) (hb : Blk W gb 9 #[.string path]) :
    StepE w0 W p n C D k (sRm path) 63 #[.pointer (some ⟨gd, 0, none⟩), .pointer (some ⟨gb, 0, none⟩)] := by
  have HC := Lib.hid (RunE.callC (R := fun e => e = .returned (.int .i64 (D.edited.remove path).1)) h hI fun G hG hE => dremove_callE p (n + C) G D path W hG hE (by omega) (by omega)); have hc1 := hd.cell; have hc2 := hb.cell; have hl1 := hd.lt; have hl2 := hb.lt; clear h hI hd hb; unfold StepE
  go_enter Tryz.func63, Tryz.ntmps63
  go_wp2_with fail
  refine HC.out.mono ?_
  rintro e w2 ⟨rfl, hT⟩; have HT := Lib.hid hT; clear hT
  go_wp2_with fail
  go_ret
  exact ⟨rfl, HT.out⟩
theorem eflush_step (h : RunE w0 W p D n k) (hI : InvE C D n) (hn : n + C ≤ 40000000) : StepE w0 W p n C D k sFl 19 #[.pointer (some ⟨p, 0, none⟩)] :=
  RunE.callC (R := fun e => e = .returned (.int .i64 D.edited.flush.1)) h hI fun G hG hE => flush_callE p (n + C) G D W hG hE (by omega)
theorem untilE_any (g m c : Nat) (fs : List (FuncId × Array Value × Array Value)) (cs : List CallP) (h : RunE w0 w p D n k) (hI : InvE C D n) (hm : fs.length = m) (hcs : cs.length = m) (hm9 : m ≤ 1000) (hg : Blk w g 37 (fs.map fun f => Value.func (.func f.1) f.2.1 f.2.2).toArray) (hgk : g ∈ k)
    (hz : ∀ x ∈ cs, x.data.size ≤ maxLen ∧ x.to_.size ≤ maxLen) (hn : n + m * (C + 2) + C ≤ 40000000) (en : ∀ f ∈ fs, ∀ args w, (callFunc f.1 args).run Tryz.prog w = .ok (.enter f.1 args) w)
    (hst : ∀ (i : Nat) f x W D' n', fs[i]? = some f → cs[i]? = some x → Kept k w W → RunE w0 W p D' n' k → InvE C D' n' → n' + C ≤ 40000000 → StepE w0 W p n' C D' k x f.1 (f.2.1 ++ f.2.2)) :
    Calls Tryz.prog 58 #[.slice (some ⟨g, 0, none⟩) m c] w fun e w' => e = .returned (.int .i64 (untilE cs D).1) ∧ RunE w0 w' p (untilE cs D).2 (n + m * (C + 2)) k ∧ Kept k w w' := by
  refine (until_any g m c fs (fun i W => ∃ D', untilE (cs.take i) D = (0, D') ∧ RunE w0 W p D' (n + i * (C + 2)) k ∧ Kept k w W ∧ InvE C D' (n + i * (C + 2)))
    (fun v W => v = (untilE cs D).1 ∧ RunE w0 W p (untilE cs D).2 (n + m * (C + 2)) k ∧ Kept k w W) w hm hm9 ⟨D, rfl, h.le (by omega), fun _ _ => rfl, hI.le (by omega)⟩ ?_ ?_ ?_ en).mono ?_
  · rintro i W ⟨D', -, -, hk, -⟩
    have hB := hk.blk hg hgk; refine ⟨hB.lt, fun j f hj => ?_⟩; rw [hB.cell]; simp [hj]
  · rintro i f W hf ⟨D', h1, h2, h3, h4⟩
    have hi : i < m := by rw [← hm]; exact (List.getElem?_eq_some_iff.1 hf).1
    obtain ⟨x, hx⟩ : ∃ x, cs[i]? = some x := ⟨_, List.getElem?_eq_getElem (by omega)⟩
    have hmul : n + i * (C + 2) + C + 2 = n + (i + 1) * (C + 2) := by rw [Nat.succ_mul]; omega
    have hle : (i + 1) * (C + 2) ≤ m * (C + 2) := Nat.mul_le_mul_right _ hi
    have htk : cs.take (i + 1) = cs.take i ++ [x] := by rw [List.take_add_one, hx]; rfl
    refine (hst i f _ W D' _ hf hx h3 h2 h4 (by omega)).mono ?_
    rintro e w' ⟨rfl, hr, hk⟩; rw [hmul] at hr; refine ⟨_, rfl, fun hv => ⟨(askE D' x).2, ?_, hr, h3.trans hk, ?_⟩, fun hv => ?_⟩
    · rw [htk, untilE_snoc _ h1, hv]
    · exact h4.ask _ (hz _ (List.mem_of_getElem? hx)).1 (hz _ (List.mem_of_getElem? hx)).2 hr.ok
    have hall : untilE cs D = ((askE D' x).1.err, (askE D' x).2) := by
      have h5 := untilE_stop (cs.drop i) h1; rw [List.take_append_drop] at h5; rw [h5, show cs.drop i = x :: cs.drop (i + 1) by
        obtain ⟨hl, rfl⟩ := List.getElem?_eq_some_iff.1 hx; exact List.drop_eq_getElem_cons hl]
      show (if (askE D' x).1.err ≠ 0 then _ else _) = _
      rw [if_pos hv]
    rw [hall]; exact ⟨rfl, hr.le (by omega), h3.trans hk⟩
  · rintro W ⟨D', h1, h2, h3, -⟩
    rw [show cs.take m = cs by rw [← hcs, List.take_length]] at h1; rw [h1]; exact ⟨rfl, h2, h3⟩
  rintro e w' ⟨v, rfl, rfl, h2, h3⟩; exact ⟨rfl, h2, h3⟩
theorem Off.keptR (ho : Off [] w W) (h : RunE w0 w p D n k) : Kept k w W := fun b hb => by
  obtain ⟨_, _, _, _, _, h5⟩ := h; exact ho.block b (h5 b hb).1 (by simp)
theorem Kept.sub {k' : List Nat} (h : Kept k w W) (hk : ∀ b ∈ k', b ∈ k) : Kept k' w W := fun b hb => h b (hk b hb)
end
end
section
open Go.RowKit Go.Op Go.Maps
theorem emp0 : (⟨#[]⟩ : ByteArray).size ≤ maxLen := by decide
set_option maxRecDepth 100000 in
set_option maxHeartbeats 8000000 in
theorem esave_any {w0 : World} {k : List Nat} (p n C : Nat) (D : PDisk) (path text : ByteArray) (w : World) (h : RunE w0 w p D n k) (hI : InvE C D n) (hn : n + 4 * (C + 2) + C ≤ 40000000) (hs : path.size ≤ 1048576) (hs2 : text.size ≤ maxLen) :
    Calls Tryz.prog 22 #[.pointer (some ⟨p, 0, none⟩), .string path, .string text] w fun e w' => e = .returned (.int .i64 (saveE D path text).1) ∧ RunE w0 w' p (saveE D path text).2 (n + 4 * (C + 2)) k ∧ Kept k w w' := by
  have H := Lib.hid h; have HI := Lib.hid hI; obtain ⟨b, hb⟩ : ∃ b, besideP path = b := ⟨_, rfl⟩
  have HBS := Lib.hid (show b.size ≤ 2000000 by rw [← hb, beside_size]; omega); have HBE := Lib.hid (fun (W : World) => besideE_any path W (by omega)); have HTX := Lib.hid hs2; have HSV := Lib.hid (show saveE D path text = untilE [sWr b text, sSy b, sRp b path, sFl] D by unfold saveE saveL; rw [hb]); rw [hb] at HBE; clear h hI hs2 hb
  go_enter Tryz.func22, Tryz.ntmps22
  go_wp2_with fail
  have hb1 : Blk (((w.alloc (.cells #[.pointer (some ⟨p, 0, none⟩)] 25)).alloc (.cells #[.string path] 9)).alloc (.cells #[.string text] 9)) w.heap.size 25 #[.pointer (some ⟨p, 0, none⟩)] := ((Blk.new w _ _).alloc _).alloc _
  have hb2 : Blk (((w.alloc (.cells #[.pointer (some ⟨p, 0, none⟩)] 25)).alloc (.cells #[.string path] 9)).alloc (.cells #[.string text] 9)) (w.heap.size + 1) 9 #[.string path] := (Blk.new1 w _ _ _).alloc _
  have hb3 : Blk (((w.alloc (.cells #[.pointer (some ⟨p, 0, none⟩)] 25)).alloc (.cells #[.string path] 9)).alloc (.cells #[.string text] 9)) (w.heap.size + 1 + 1) 9 #[.string text] := Blk.new2 w _ _ _ _
  refine (HBE.out _).mono ?_
  rintro e w1 ⟨rfl, ho1⟩; have HB1 := Lib.hid (hb1.off ho1 (by simp)); have HB2 := Lib.hid (hb2.off ho1 (by simp)); have HB3 := Lib.hid (hb3.off ho1 (by simp)); have HO1 := Lib.hid (show Off [] w w1 from ((((Off.refl _ _).alloc _).alloc _).alloc _).trans_nil ho1); clear hb1 hb2 hb3 ho1
  go_upto_region 2 with fail
  refine code_gen (fun W => Blk W w.heap.size 25 #[.pointer (some ⟨p, 0, none⟩)] ∧ Blk W (w.heap.size + 1) 9 #[.string path] ∧ Blk W (w.heap.size + 1 + 1) 9 #[.string text] ∧ Blk W w1.heap.size 9 #[.string b] ∧ Off [] w W)
    ⟨HB1.out.alloc _, HB2.out.alloc _, HB3.out.alloc _, Blk.new w1 _ _, HO1.out.alloc _⟩ ?_
  rintro Wx ⟨k1, k2, k3, k4, ko⟩
  obtain ⟨Wb, hWb⟩ : ∃ Wb, Wx.alloc (.cells #[.func (.func 59) #[] #[.pointer (some ⟨w.heap.size, 0, none⟩), .pointer (some ⟨w1.heap.size, 0, none⟩), .pointer (some ⟨w.heap.size + 1 + 1, 0, none⟩)], .func (.func 60) #[] #[.pointer (some ⟨w.heap.size, 0, none⟩), .pointer (some ⟨w1.heap.size, 0, none⟩)], .func (.func 61) #[] #[.pointer (some ⟨w.heap.size, 0, none⟩), .pointer (some ⟨w1.heap.size, 0, none⟩), .pointer (some ⟨w.heap.size + 1, 0, none⟩)], .func (.func 19) #[.pointer (some ⟨p, 0, none⟩)] #[]] 37) = Wb := ⟨_, rfl⟩
  have hbs : Blk Wb Wx.heap.size 37 #[.func (.func 59) #[] #[.pointer (some ⟨w.heap.size, 0, none⟩), .pointer (some ⟨w1.heap.size, 0, none⟩), .pointer (some ⟨w.heap.size + 1 + 1, 0, none⟩)], .func (.func 60) #[] #[.pointer (some ⟨w.heap.size, 0, none⟩), .pointer (some ⟨w1.heap.size, 0, none⟩)], .func (.func 61) #[] #[.pointer (some ⟨w.heap.size, 0, none⟩), .pointer (some ⟨w1.heap.size, 0, none⟩), .pointer (some ⟨w.heap.size + 1, 0, none⟩)], .func (.func 19) #[.pointer (some ⟨p, 0, none⟩)] #[]] := by rw [← hWb]; exact Blk.new Wx _ _
  have hob : Off [] Wx Wb := by rw [← hWb]; exact (Off.refl _ _).alloc _
  have hW : Off [] w Wb := ko.trans_nil hob
  have hw1 : w.heap.size ≤ w1.heap.size := HO1.out.size
  have hwx : w.heap.size ≤ Wx.heap.size := ko.size
  have k1b := k1.off hob (by simp); have k2b := k2.off hob (by simp); have k3b := k3.off hob (by simp); have k4b := k4.off hob (by simp); have hl1b := k1b.lt; have hl2b := k2b.lt; have hl3b := k3b.lt; have hl4b := k4b.lt; have hl5b := hbs.lt; have HRK := Lib.hid (H.out.more (k' := [w.heap.size, w.heap.size + 1, w.heap.size + 1 + 1, w1.heap.size, Wx.heap.size]) hW (fun b hb => by
    simp only [List.mem_cons, List.not_mem_nil, or_false] at hb
    rcases hb with rfl | rfl | rfl | rfl | rfl <;> omega))
  have HU := Lib.hid (untilE_any Wx.heap.size 4 4 [(59, #[], #[.pointer (some ⟨w.heap.size, 0, none⟩), .pointer (some ⟨w1.heap.size, 0, none⟩), .pointer (some ⟨w.heap.size + 1 + 1, 0, none⟩)]), (60, #[], #[.pointer (some ⟨w.heap.size, 0, none⟩), .pointer (some ⟨w1.heap.size, 0, none⟩)]), (61, #[], #[.pointer (some ⟨w.heap.size, 0, none⟩), .pointer (some ⟨w1.heap.size, 0, none⟩), .pointer (some ⟨w.heap.size + 1, 0, none⟩)]), (19, #[.pointer (some ⟨p, 0, none⟩)], #[])]
    [sWr b text, sSy b, sRp b path, sFl] HRK.out HI.out rfl rfl (by decide) hbs (by simp) (fun x hx => by
      simp only [List.mem_cons, List.not_mem_nil, or_false] at hx
      rcases hx with rfl | rfl | rfl | rfl
      · exact ⟨HTX.out, emp0⟩
      · exact ⟨emp0, emp0⟩
      · exact ⟨emp0, by show path.size ≤ maxLen; unfold maxLen; omega⟩
      · exact ⟨emp0, emp0⟩) hn (fun f hf => by
      simp only [List.mem_cons, List.not_mem_nil, or_false] at hf
      rcases hf with rfl | rfl | rfl | rfl
      · exact EN1
      · exact EN2
      · exact EN3
      exact ENF)
    (fun i f x W D' n' hf hx hk hr hi hle => by
      match i, hf, hx with
      | 0, hf, hx =>
        cases hf; cases hx
        exact esave1_any _ _ _ b text hr hi hle HBS.out (hk.blk k1b (by simp)) (hk.blk k4b (by simp)) (hk.blk k3b (by simp))
      | 1, hf, hx =>
        cases hf; cases hx
        exact esave2_any _ _ b hr hi hle HBS.out (hk.blk k1b (by simp)) (hk.blk k4b (by simp))
      | 2, hf, hx =>
        cases hf; cases hx
        exact esave3_any _ _ _ b path hr hi hle HBS.out (by omega) (hk.blk k1b (by simp)) (hk.blk k4b (by simp)) (hk.blk k2b (by simp))
      | 3, hf, hx =>
        cases hf; cases hx
        exact eflush_step hr hi hle
      | i + 4, hf, hx => simp at hf))
  have HW := Lib.hid hW; have hc1 := k1.cell; have hl1 := k1.lt; clear k2 k3 k4 ko hbs hob hW hw1 hwx k1b k2b k3b k4b k1 HBE HB1 HB2 HB3 hl1b hl2b hl3b hl4b hl5b HRK
  go_wp2_with fail
  refine HU.out.mono ?_
  rintro e w2 ⟨rfl, hr, hk⟩; have HR := Lib.hid hr; have HK := Lib.hid hk; clear hr hk hc1 hl1
  go_wp2_with fail
  go_ret
  rw [HSV.out]; exact ⟨rfl, HR.out.drop (fun b hb => List.mem_append_right _ hb), (HW.out.keptR H.out).trans (HK.out.sub (fun b hb => List.mem_append_right _ hb))⟩
set_option maxRecDepth 100000 in
set_option maxHeartbeats 8000000 in
theorem eclear_any {w0 : World} {k : List Nat} (p n C : Nat) (D : PDisk) (path : ByteArray) (w : World) (h : RunE w0 w p D n k) (hI : InvE C D n) (hn : n + 2 * (C + 2) + C ≤ 40000000) (hs : path.size ≤ 1048576) :
    Calls Tryz.prog 25 #[.pointer (some ⟨p, 0, none⟩), .string path] w fun e w' => e = .returned (.int .i64 (clearE D path).1) ∧ RunE w0 w' p (clearE D path).2 (n + 2 * (C + 2)) k ∧ Kept k w w' := by
  have H := Lib.hid h; have HI := Lib.hid hI; have HSV := Lib.hid (show clearE D path = (if (untilE [sRm path, sFl] D).1 = 74 then 0 else (untilE [sRm path, sFl] D).1, (untilE [sRm path, sFl] D).2) from rfl); clear h hI
  go_enter Tryz.func25, Tryz.ntmps25
  go_upto_region 1 with fail
  refine code_gen (fun W => Blk W w.heap.size 25 #[.pointer (some ⟨p, 0, none⟩)] ∧ Blk W (w.heap.size + 1) 9 #[.string path] ∧ Off [] w W)
    ⟨(Blk.new w _ _).alloc _, Blk.new1 w _ _ _, ((Off.refl _ _).alloc _).alloc _⟩ ?_
  rintro Wx ⟨k1, k2, ko⟩; obtain ⟨Wb, hWb⟩ : ∃ Wb, Wx.alloc (.cells #[.func (.func 63) #[] #[.pointer (some ⟨w.heap.size, 0, none⟩), .pointer (some ⟨w.heap.size + 1, 0, none⟩)], .func (.func 19) #[.pointer (some ⟨p, 0, none⟩)] #[]] 37) = Wb := ⟨_, rfl⟩
  have hbs : Blk Wb Wx.heap.size 37 #[.func (.func 63) #[] #[.pointer (some ⟨w.heap.size, 0, none⟩), .pointer (some ⟨w.heap.size + 1, 0, none⟩)], .func (.func 19) #[.pointer (some ⟨p, 0, none⟩)] #[]] := by rw [← hWb]; exact Blk.new Wx _ _
  have hob : Off [] Wx Wb := by rw [← hWb]; exact (Off.refl _ _).alloc _
  have hW : Off [] w Wb := ko.trans_nil hob
  have hwx : w.heap.size ≤ Wx.heap.size := ko.size
  have k1b := k1.off hob (by simp); have k2b := k2.off hob (by simp); have hl1b := k1b.lt; have hl2b := k2b.lt; have hl5b := hbs.lt; have HRK := Lib.hid (H.out.more (k' := [w.heap.size, w.heap.size + 1, Wx.heap.size]) hW (fun b hb => by
    simp only [List.mem_cons, List.not_mem_nil, or_false] at hb
    rcases hb with rfl | rfl | rfl <;> omega))
  have HU := Lib.hid (untilE_any Wx.heap.size 2 2 [(63, #[], #[.pointer (some ⟨w.heap.size, 0, none⟩), .pointer (some ⟨w.heap.size + 1, 0, none⟩)]), (19, #[.pointer (some ⟨p, 0, none⟩)], #[])]
    [sRm path, sFl] HRK.out HI.out rfl rfl (by decide) hbs (by simp) (fun x hx => by
      simp only [List.mem_cons, List.not_mem_nil, or_false] at hx
      rcases hx with rfl | rfl
      · exact ⟨emp0, emp0⟩
      · exact ⟨emp0, emp0⟩) hn (fun f hf => by
      simp only [List.mem_cons, List.not_mem_nil, or_false] at hf
      rcases hf with rfl | rfl
      · exact ENC1
      exact ENF)
    (fun i f x W D' n' hf hx hk hr hi hle => by
      match i, hf, hx with
      | 0, hf, hx =>
        cases hf; cases hx
        exact eclear1_any _ _ path hr hi hle (by omega) (hk.blk k1b (by simp)) (hk.blk k2b (by simp))
      | 1, hf, hx =>
        cases hf; cases hx
        exact eflush_step hr hi hle
      | i + 2, hf, hx => simp at hf))
  have HW := Lib.hid hW; have hc1 := k1.cell; have hl1 := k1.lt; clear k2 ko hbs hob hW hwx k1b k2b k1 hl1b hl2b hl5b HRK
  go_wp2_with fail
  refine HU.out.mono ?_
  rintro e w2 ⟨rfl, hr, hk⟩; have HR := Lib.hid hr; have HK := Lib.hid hk; obtain ⟨v, hv⟩ : ∃ v, (untilE [sRm path, sFl] D).1 = v := ⟨_, rfl⟩
  have HV := Lib.hid hv; rw [hv]; clear hr hk hc1 hl1 hv
  by_cases h74 : v = 74
  · have hq : (v == 74) = true := by rw [h74]; rfl
    have HIF := Lib.hid (show (if v = 74 then (0 : Int) else v) = 0 from if_pos h74); clear h74
    go_wp2_with fail
    go_ret
    rw [HSV.out]; exact ⟨show Ending.returned (Value.int .i64 0) = .returned (.int .i64 (if (untilE [sRm path, sFl] D).1 = 74 then 0 else (untilE [sRm path, sFl] D).1)) by rw [HV.out, HIF.out], HR.out.drop (fun b hb => List.mem_append_right _ hb), (HW.out.keptR H.out).trans (HK.out.sub (fun b hb => List.mem_append_right _ hb))⟩
  have hq : (v == 74) = false := beq_eq_false_iff_ne.2 h74
  have HIF := Lib.hid (show (if v = 74 then (0 : Int) else v) = v from if_neg h74); clear h74
  go_wp2_with fail
  go_ret
  rw [HSV.out]; exact ⟨show Ending.returned (Value.int .i64 v) = .returned (.int .i64 (if (untilE [sRm path, sFl] D).1 = 74 then 0 else (untilE [sRm path, sFl] D).1)) by rw [HV.out, HIF.out], HR.out.drop (fun b hb => List.mem_append_right _ hb), (HW.out.keptR H.out).trans (HK.out.sub (fun b hb => List.mem_append_right _ hb))⟩
set_option maxRecDepth 100000 in
set_option maxHeartbeats 8000000 in
theorem eload_any {w0 : World} {k : List Nat} (p n C : Nat) (D : PDisk) (path : ByteArray) (w : World) (h : RunE w0 w p D n k) (hI : InvE C D n) (hn : n + C ≤ 40000000) (hs : path.size ≤ 1048576) :
    Calls Tryz.prog 23 #[.pointer (some ⟨p, 0, none⟩), .string path] w fun e w' => e = .returned (.tuple #[.string (loadE D path).1.1, .bool (loadE D path).1.2.1, .int .i64 (loadE D path).1.2.2]) ∧ RunE w0 w' p (loadE D path).2 (n + C + 1) k ∧ Kept k w w' := by
  have HG := Lib.hid ((h.le (show n ≤ n + C by omega)).call (R := fun e _ => e = .returned (getVal (D.edited.get path).1)) fun G hG => dget_callE p (n + C) G D path w hG (hI.rd.edc.eok hI.fine) (by omega) (by omega)); obtain ⟨r, hr⟩ : ∃ r, D.edited.get path = r := ⟨_, rfl⟩
  have HL := Lib.hid (show loadE D path = if r.1.1 = 74 then ((⟨#[]⟩, false, 0), r.2) else if r.1.1 ≠ 0 then ((⟨#[]⟩, false, r.1.1), r.2) else if r.1.2.1.kind ≠ 1 then ((⟨#[]⟩, false, 73), r.2) else ((r.1.2.1.data, true, 0), r.2) by
    unfold loadE; rw [hr])
  rw [hr] at HG; clear h hI hr; obtain ⟨⟨er, nd, gi, gs, gt⟩, D2⟩ := r; unfold getVal at HG; dsimp only at HG HL
  go_enter Tryz.func23, Tryz.ntmps23
  go_wp2_with fail
  refine HG.out.mono ?_
  rintro e w2 ⟨rfl, hT, hk⟩; have HO := Lib.hid (show Off [] w2 ((w2.alloc (.cells #[.string nd.path, .int .i64 nd.kind, .string nd.data, .int .i64 nd.mode] 30)).alloc (.cells #[.int .i64 gi, .int .i64 gs, .int .i64 gt] 39)) from ((Off.refl _ _).alloc _).alloc _); have HT := Lib.hid (And.intro (hT.off HO.out) (hk.trans (HO.out.keptR hT))); clear hT hk HG
  by_cases h74 : er = 74
  · have hq : (er == 74) = true := by rw [h74]; rfl
    have HF := Lib.hid (show loadE D path = ((⟨#[]⟩, false, 0), D2) by rw [HL.out, if_pos h74]); clear h74 HL
    go_wp2_with fail
    go_ret3
    rw [HF.out]; exact ⟨rfl, HT.out⟩
  have hq : (er == 74) = false := beq_eq_false_iff_ne.2 h74
  by_cases h0 : er = 0
  · have hq0 : (er == 0) = true := by rw [h0]; rfl
    by_cases hk : nd.kind = 1
    · have hqk : (nd.kind == 1) = true := by rw [hk]; rfl
      have HF := Lib.hid (show loadE D path = ((nd.data, true, 0), D2) by rw [HL.out, if_neg h74, if_neg (by rw [h0]; decide), if_neg (by rw [hk]; decide)]); clear h74 h0 hk HL
      go_wp2_with fail
      go_ret3
      rw [HF.out]; exact ⟨rfl, HT.out⟩
    have hqk : (nd.kind == 1) = false := beq_eq_false_iff_ne.2 hk
    have HF := Lib.hid (show loadE D path = ((⟨#[]⟩, false, 73), D2) by rw [HL.out, if_neg h74, if_neg (by rw [h0]; decide), if_pos hk]); clear h74 h0 hk HL
    go_wp2_with fail
    go_ret3
    rw [HF.out]; exact ⟨rfl, HT.out⟩
  have hq0 : (er == 0) = false := beq_eq_false_iff_ne.2 h0
  have HF := Lib.hid (show loadE D path = ((⟨#[]⟩, false, er), D2) by rw [HL.out, if_neg h74, if_pos h0]); clear h74 h0 HL
  go_wp2_with fail
  go_ret3
  rw [HF.out]; exact ⟨rfl, HT.out⟩
end
section
open Go.RowKit Go.Op Go.Maps
theorem ArgsX.next {A : RArg} {w w' : World} {p : Nat} {L L' : List Nat} {D E : PDisk} (h : ArgsX A w p L D) (ho : Off (p :: L) w w') (hp : ∀ b ∈ L', b ∈ L ∨ w.heap.size ≤ b) (hf : E.fates = D.fates) (he : E.edits = D.edits) : ArgsX A w' p L' E := fun W hW => by
  rw [hf, he]; refine h W (ho.trans hW (fun x hx hm => ?_))
  rcases List.mem_cons.1 hm with rfl | hm
  · exact List.mem_cons_self ..
  rcases hp x hm with h | h
  · exact List.mem_cons_of_mem _ h
  omega
def RSt (A : RArg) (w : World) (p : Nat) (L : List Nat) (C n : Nat) (E : PDisk) (W : World) : Prop :=
  ∃ G1, RefM A W p G1 (norm E) ∧ Off (p :: L) w W ∧ (∀ b ∈ G1.blocks, b ∈ L ∨ w.heap.size ≤ b) ∧ InvE C E n ∧ ArgsX A W p G1.blocks E
section
variable {A : RArg} {w W W' : World} {p C n : Nat} {L : List Nat} {E : PDisk}
theorem RSt.begin_ {G : RGeo} (h : RefM A w p G (norm E)) (hI : InvE C E n) (hA : ArgsX A w p G.blocks E) : RSt A w p G.blocks C n E w := ⟨G, h, Off.refl _ _, fun _ hb => .inl hb, hI, hA⟩
theorem RSt.off (h : RSt A w p L C n E W) (ho : Off [] W W') : RSt A w p L C n E W' := by
  obtain ⟨G1, h1, h2, h3, h4, h5⟩ := h; exact ⟨G1, h1.off_nil ho, h2.trans ho (fun _ _ h => by cases h), h3, h4, h5.off ho⟩
theorem RSt.call {f : FuncId} {args : Array Value} {R : Ending → Prop} (c : CallP) (h : RSt A w p L C n E W) (hn : n + C ≤ 40000000) (h1 : c.data.size ≤ maxLen) (h2 : c.to_.size ≤ maxLen) (hf : (askE E c).2.fates = E.fates) (he : (askE E c).2.edits = E.edits)
    (hok : Ok (askE E c).2 (n + C + 2)) (hc : ∀ G1, RefM A W p G1 (norm E) → Ref0 C E n → ArgsX A W p G1.blocks E → Calls Tryz.prog f args W fun e w' => R e ∧ RefTo A W p G1.blocks w' (norm (askE E c).2)) :
    Calls Tryz.prog f args W fun e w' => R e ∧ RSt A w p L C (n + C + 2) (askE E c).2 w' := by
  obtain ⟨G1, k1, k2, k3, k4, k5⟩ := h; refine (hc G1 k1 ⟨k4.fine, k4.rd, k4.slim, hn⟩ k5).mono ?_; rintro e w' ⟨hr, G2, q1, q2, q3⟩; obtain ⟨G3, r1, r2, r3⟩ := RefTo.next k2 k3 ⟨G2, q1, q2, q3⟩; refine ⟨hr, G2, q1, k2.trans q2 (fun x hx hm => ?_), fun b hb => ?_, k4.ask c h1 h2 hok, k5.next q2 q3 hf he⟩
  · rcases List.mem_cons.1 hm with rfl | hm
    · exact List.mem_cons_self ..
    rcases k3 x hm with h | h
    · exact List.mem_cons_of_mem _ h
    omega
  rcases q3 b hb with h | h
  · exact k3 b h
  exact .inr (Nat.le_trans k2.size h)
theorem InvE.edok (h : InvE C E n) : Ok E.edited (n + C) := (h.rd.edc.edited h.fine).ok
theorem emp1 : (⟨#[]⟩ : ByteArray).size ≤ maxLen := by decide
theorem RSt.inv (h : RSt A w p L C n E W) : InvE C E n := by obtain ⟨_, _, _, _, h4, _⟩ := h; exact h4
theorem rst_write (b text : ByteArray) (h : RSt A w p L C n E W) (hn : n + C ≤ 40000000) (hb : b.size ≤ 1048576) (ht : text.size ≤ maxLen) :
    Calls Tryz.prog 65 #[.pointer (some ⟨p, 0, none⟩), .string b, .string text, .int .i64 384] W fun e w' => e = .returned (.int .i64 (askE E (sWr b text)).1.err) ∧ RSt A w p L C (n + C + 2) (askE E (sWr b text)).2 w' :=
  RSt.call (R := fun e => e = .returned (.int .i64 (askE E (sWr b text)).1.err)) (sWr b text) h hn ht emp1 ((write_fates _ _ _ _).trans (edited_fates E)) ((write_edits _ _ _ _).trans (edited_edits E)) (PDisk.write_ok h.inv.edok _ _ _)
    fun G1 h1 h2 h3 => r7write_any p n C G1 E b text 384 W h1 h2 h3 hb
theorem rst_sync (b : ByteArray) (h : RSt A w p L C n E W) (hn : n + C ≤ 40000000) (hb : b.size ≤ 1048576) :
    Calls Tryz.prog 66 #[.pointer (some ⟨p, 0, none⟩), .string b] W fun e w' => e = .returned (.int .i64 (askE E (sSy b)).1.err) ∧ RSt A w p L C (n + C + 2) (askE E (sSy b)).2 w' :=
  RSt.call (R := fun e => e = .returned (.int .i64 (askE E (sSy b)).1.err)) (sSy b) h hn emp1 emp1 ((sync_fates _ _).trans (edited_fates E)) ((sync_edits _ _).trans (edited_edits E)) (PDisk.sync_ok h.inv.edok _)
    fun G1 h1 h2 h3 => r7sync_any p n C G1 E b W h1 h2 h3 hb
theorem rst_replace (b q : ByteArray) (h : RSt A w p L C n E W) (hn : n + C ≤ 40000000) (hb : b.size ≤ 1048576) (hq : q.size ≤ 1048576) :
    Calls Tryz.prog 67 #[.pointer (some ⟨p, 0, none⟩), .string b, .string q] W fun e w' => e = .returned (.int .i64 (askE E (sRp b q)).1.err) ∧ RSt A w p L C (n + C + 2) (askE E (sRp b q)).2 w' :=
  RSt.call (R := fun e => e = .returned (.int .i64 (askE E (sRp b q)).1.err)) (sRp b q) h hn emp1 (by show q.size ≤ maxLen; unfold maxLen; omega) ((replace_fates _ _ _).trans (edited_fates E)) ((replace_edits _ _ _).trans (edited_edits E)) (PDisk.replace_ok h.inv.edok _ _)
    fun G1 h1 h2 h3 => r7replace_any p n C G1 E b q W h1 h2 h3 hb hq
theorem rst_remove (b : ByteArray) (h : RSt A w p L C n E W) (hn : n + C ≤ 40000000) (hb : b.size ≤ 1048576) :
    Calls Tryz.prog 70 #[.pointer (some ⟨p, 0, none⟩), .string b] W fun e w' => e = .returned (.int .i64 (askE E (sRm b)).1.err) ∧ RSt A w p L C (n + C + 2) (askE E (sRm b)).2 w' :=
  RSt.call (R := fun e => e = .returned (.int .i64 (askE E (sRm b)).1.err)) (sRm b) h hn emp1 emp1 ((remove_fates _ _).trans (edited_fates E)) ((remove_edits _ _).trans (edited_edits E)) (PDisk.remove_ok h.inv.edok _)
    fun G1 h1 h2 h3 => r7remove_any p n C G1 E b W h1 h2 h3 hb
theorem rst_flush (h : RSt A w p L C n E W) (hn : n + C ≤ 40000000) :
    Calls Tryz.prog 68 #[.pointer (some ⟨p, 0, none⟩)] W fun e w' => e = .returned (.int .i64 (askE E sFl).1.err) ∧ RSt A w p L C (n + C + 2) (askE E sFl).2 w' :=
  RSt.call (R := fun e => e = .returned (.int .i64 (askE E sFl).1.err)) sFl h hn emp1 emp1 ((flush_fates _).trans (edited_fates E)) ((flush_edits _).trans (edited_edits E)) (PDisk.flush_ok h.inv.edok)
    fun G1 h1 h2 h3 => r7flush_any p n C G1 E W h1 h2 h3
theorem rst_get (b : ByteArray) (h : RSt A w p L C n E W) (hn : n + C ≤ 40000000) (hb : b.size ≤ 1048576) :
    Calls Tryz.prog 69 #[.pointer (some ⟨p, 0, none⟩), .string b] W fun e w' => e = .returned (getVal (E.edited.get b).1) ∧ RSt A w p L C (n + C + 2) (askE E (sGt b)).2 w' :=
  RSt.call (R := fun e => e = .returned (getVal (E.edited.get b).1)) (sGt b) h hn emp1 emp1 ((get_fates _ _).trans (edited_fates E)) ((get_edits _ _).trans (edited_edits E)) (PDisk.ok_mono (PDisk.get_ok h.inv.edok _) (by omega))
    fun G1 h1 h2 h3 => r7get_any p n C G1 E b W h1 h2 h3 hb
end
theorem untilE_one (c : CallP) (D : PDisk) : untilE [c] D = ((askE D c).1.err, (askE D c).2) := by
  show (if (askE D c).1.err ≠ 0 then _ else (0, (askE D c).2)) = _
  by_cases h0 : (askE D c).1.err = 0
  · rw [if_neg (by rw [h0]; decide), h0]
  rw [if_pos h0]
theorem untilE_err {c : CallP} {l : List CallP} {D : PDisk} (h : (askE D c).1.err ≠ 0) : untilE (c :: l) D = ((askE D c).1.err, (askE D c).2) := by
  show (if (askE D c).1.err ≠ 0 then _ else _) = _
  rw [if_pos h]
theorem untilE_on {c : CallP} {l : List CallP} {D : PDisk} (h : (askE D c).1.err = 0) : untilE (c :: l) D = untilE l (askE D c).2 := by
  show (if (askE D c).1.err ≠ 0 then _ else _) = _
  rw [if_neg (by rw [h]; decide)]
theorem get_data (D : PDisk) (path : ByteArray) (h : (D.get path).1.1 ≠ 0) : (D.get path).1.2.1.data = ⟨#[]⟩ := by
  revert h
  unfold PDisk.get; generalize D.step ⟨#[71, 101, 116]⟩ path ⟨#[]⟩ = st; obtain ⟨full, e, E⟩ := st; dsimp only
  split
  · intro _; rfl
  unfold PDisk.get_
  split
  · intro _; rfl
  dsimp only
  split
  · intro _; rfl
  split
  · intro _; rfl
  intro h; exact absurd rfl h
def RFin (A : RArg) (w : World) (p : Nat) (L : List Nat) (C n : Nat) (r : Int × PDisk) (e : Ending) (W : World) : Prop := e = .returned (.int .i64 r.1) ∧ RSt A w p L C n r.2 W
set_option maxRecDepth 100000 in
set_option maxHeartbeats 4000000 in
theorem r10save_any {A : RArg} {L : List Nat} {w0 : World} (p n C : Nat) (D : PDisk) (path text : ByteArray) (w : World) (h : RSt A w0 p L C n D w) (hn : n + 4 * (C + 2) + C ≤ 40000000) (hs : path.size ≤ 1048575) (hs2 : text.size ≤ maxLen) :
    Calls Tryz.prog 28 #[.pointer (some ⟨p, 0, none⟩), .string path, .string text] w fun e w' => ∃ m, m ≤ n + 4 * (C + 2) ∧ RFin A w0 p L C m (saveE D path text) e w' := by
  have H := Lib.hid h; obtain ⟨b, hb⟩ : ∃ b, path ++ (⟨#[126]⟩ : ByteArray) = b := ⟨_, rfl⟩
  have HBS := Lib.hid (show b.size ≤ 1048576 by rw [← hb, ByteArray.size_append]; show path.size + 1 ≤ _; omega); have HSV := Lib.hid (show saveE D path text = untilE [sWr b text, sSy b, sRp b path, sFl] D by unfold saveE saveL besideP; rw [hb]); have HTX := Lib.hid hs2; clear h hs2; have HC1 := Lib.hid (rst_write b text H.out (by omega) HBS.out HTX.out)
  obtain ⟨v1, hv1⟩ : ∃ v, (askE D (sWr b text)).1.err = v := ⟨_, rfl⟩
  obtain ⟨D1, hD1⟩ : ∃ E, (askE D (sWr b text)).2 = E := ⟨_, rfl⟩
  have HV1 := Lib.hid (And.intro hv1 hD1); rw [hv1, hD1] at HC1; clear hv1 hD1
  go_enter Tryz.func28, Tryz.ntmps28
  go_wp2_with fail
  refine HC1.out.mono ?_
  rintro e w1 ⟨rfl, hr⟩; have HR1 := Lib.hid hr; clear hr HC1
  by_cases h1 : v1 = 0
  case neg =>
    have HF := Lib.hid (show saveE D path text = (v1, D1) by rw [HSV.out, untilE_err (by rw [HV1.out.1]; exact h1), HV1.out.1, HV1.out.2]); have hne : (v1 == 0) = false := beq_eq_false_iff_ne.2 h1
    clear h1
    go_wp2_with fail
    go_ret
    rw [HF.out]; exact ⟨_, by omega, rfl, HR1.out⟩
  subst h1; have HSV := Lib.hid (show saveE D path text = untilE [sSy b, sRp b path, sFl] D1 by rw [HSV.out, untilE_on HV1.out.1, HV1.out.2]); have HC2 := Lib.hid (rst_sync b HR1.out (by omega) HBS.out); clear HV1; obtain ⟨v1, hv1⟩ : ∃ v, (askE D1 (sSy b)).1.err = v := ⟨_, rfl⟩
  obtain ⟨D2, hD1⟩ : ∃ E, (askE D1 (sSy b)).2 = E := ⟨_, rfl⟩
  have HV1 := Lib.hid (And.intro hv1 hD1); rw [hv1, hD1] at HC2; clear hv1 hD1
  go_wp2_with fail
  refine HC2.out.mono ?_
  rintro e w2 ⟨rfl, hr⟩; have HR2 := Lib.hid hr; clear hr HC2
  by_cases h1 : v1 = 0
  case neg =>
    have HF := Lib.hid (show saveE D path text = (v1, D2) by rw [HSV.out, untilE_err (by rw [HV1.out.1]; exact h1), HV1.out.1, HV1.out.2]); have hne : (v1 == 0) = false := beq_eq_false_iff_ne.2 h1
    clear h1
    go_wp2_with fail
    go_ret
    rw [HF.out]; exact ⟨_, by omega, rfl, HR2.out⟩
  subst h1; have HSV := Lib.hid (show saveE D path text = untilE [sRp b path, sFl] D2 by rw [HSV.out, untilE_on HV1.out.1, HV1.out.2]); have HC3 := Lib.hid (rst_replace b path HR2.out (by omega) HBS.out (by omega)); clear HV1; obtain ⟨v1, hv1⟩ : ∃ v, (askE D2 (sRp b path)).1.err = v := ⟨_, rfl⟩
  obtain ⟨D3, hD1⟩ : ∃ E, (askE D2 (sRp b path)).2 = E := ⟨_, rfl⟩
  have HV1 := Lib.hid (And.intro hv1 hD1); rw [hv1, hD1] at HC3; clear hv1 hD1
  go_wp2_with fail
  refine HC3.out.mono ?_
  rintro e w3 ⟨rfl, hr⟩; have HR3 := Lib.hid hr; clear hr HC3
  by_cases h1 : v1 = 0
  case neg =>
    have HF := Lib.hid (show saveE D path text = (v1, D3) by rw [HSV.out, untilE_err (by rw [HV1.out.1]; exact h1), HV1.out.1, HV1.out.2]); have hne : (v1 == 0) = false := beq_eq_false_iff_ne.2 h1
    clear h1
    go_wp2_with fail
    go_ret
    rw [HF.out]; exact ⟨_, by omega, rfl, HR3.out⟩
  subst h1; have HF := Lib.hid (show saveE D path text = ((askE D3 sFl).1.err, (askE D3 sFl).2) by rw [HSV.out, untilE_on HV1.out.1, HV1.out.2, untilE_one]); have HC4 := Lib.hid (rst_flush HR3.out (by omega)); clear HV1 HSV; obtain ⟨v1, hv1⟩ : ∃ v, (askE D3 sFl).1.err = v := ⟨_, rfl⟩
  obtain ⟨D4, hD1⟩ : ∃ E, (askE D3 sFl).2 = E := ⟨_, rfl⟩
  rw [hv1, hD1] at HC4 HF; clear hv1 hD1
  go_wp2_with fail
  refine HC4.out.mono ?_
  rintro e w4 ⟨rfl, hr⟩; have HR4 := Lib.hid hr; clear hr HC4
  go_wp2_with fail
  go_ret
  rw [HF.out]; exact ⟨_, by omega, rfl, HR4.out⟩
set_option maxRecDepth 100000 in
set_option maxHeartbeats 4000000 in
theorem r10clear_any {A : RArg} {L : List Nat} {w0 : World} (p n C : Nat) (D : PDisk) (path : ByteArray) (w : World) (h : RSt A w0 p L C n D w) (hn : n + 2 * (C + 2) + C ≤ 40000000) (hs : path.size ≤ 1048576) :
    Calls Tryz.prog 30 #[.pointer (some ⟨p, 0, none⟩), .string path] w fun e w' => ∃ m, m ≤ n + 2 * (C + 2) ∧ RFin A w0 p L C m (clearE D path) e w' := by
  have H := Lib.hid h; have HSV := Lib.hid (show clearE D path = (if (untilE [sRm path, sFl] D).1 = 74 then 0 else (untilE [sRm path, sFl] D).1, (untilE [sRm path, sFl] D).2) from rfl); clear h; have HC1 := Lib.hid (rst_remove path H.out (by omega) hs); obtain ⟨v1, hv1⟩ : ∃ v, (askE D (sRm path)).1.err = v := ⟨_, rfl⟩
  obtain ⟨D1, hD1⟩ : ∃ E, (askE D (sRm path)).2 = E := ⟨_, rfl⟩
  have HV1 := Lib.hid (And.intro hv1 hD1); rw [hv1, hD1] at HC1; clear hv1 hD1
  go_enter Tryz.func30, Tryz.ntmps30
  go_wp2_with fail
  refine HC1.out.mono ?_
  rintro e w1 ⟨rfl, hr⟩; have HR1 := Lib.hid hr; clear hr HC1
  by_cases h74 : v1 = 74
  · subst h74
    have HF := Lib.hid (show clearE D path = (0, D1) by rw [HSV.out, untilE_err (by rw [HV1.out.1]; decide), HV1.out.1, HV1.out.2]; rfl)
    go_wp2_with fail
    go_ret
    rw [HF.out]; exact ⟨_, by omega, rfl, HR1.out⟩
  have hn74 : (v1 == 74) = false := beq_eq_false_iff_ne.2 h74
  by_cases h1 : v1 = 0
  case neg =>
    have HF := Lib.hid (show clearE D path = (v1, D1) by rw [HSV.out, untilE_err (by rw [HV1.out.1]; exact h1), HV1.out.1, HV1.out.2]; dsimp only; rw [if_neg h74]); have hne : (v1 == 0) = false := beq_eq_false_iff_ne.2 h1
    clear h1 h74
    go_wp2_with fail
    go_ret
    rw [HF.out]; exact ⟨_, by omega, rfl, HR1.out⟩
  subst h1; have HF := Lib.hid (show clearE D path = ((askE D1 sFl).1.err, (askE D1 sFl).2) by
    rw [HSV.out, untilE_on HV1.out.1, HV1.out.2, untilE_one]; dsimp only; rw [if_neg (show (askE D1 sFl).1.err ≠ 74 from flush_err _)])
  have HC4 := Lib.hid (rst_flush HR1.out (by omega)); clear HV1 HSV hn74 h74; obtain ⟨v1, hv1⟩ : ∃ v, (askE D1 sFl).1.err = v := ⟨_, rfl⟩
  obtain ⟨D4, hD1⟩ : ∃ E, (askE D1 sFl).2 = E := ⟨_, rfl⟩
  rw [hv1, hD1] at HC4 HF; clear hv1 hD1
  go_wp2_with fail
  refine HC4.out.mono ?_
  rintro e w4 ⟨rfl, hr⟩; have HR4 := Lib.hid hr; clear hr HC4
  go_wp2_with fail
  go_ret
  rw [HF.out]; exact ⟨_, by omega, rfl, HR4.out⟩
set_option maxRecDepth 100000 in
set_option maxHeartbeats 8000000 in
theorem r10load_any {A : RArg} {L : List Nat} {w0 : World} (p n C : Nat) (D : PDisk) (path : ByteArray) (w : World) (h : RSt A w0 p L C n D w) (hn : n + C ≤ 40000000) (hs : path.size ≤ 1048576) :
    Calls Tryz.prog 29 #[.pointer (some ⟨p, 0, none⟩), .string path] w fun e w' => e = .returned (.tuple #[.string (loadE D path).1.1, .bool (loadE D path).1.2.1, .int .i64 (loadE D path).1.2.2]) ∧ RSt A w0 p L C (n + C + 2) (loadE D path).2 w' := by
  have HG := Lib.hid (rst_get path h hn hs); rw [askE_gt] at HG; obtain ⟨r, hr⟩ : ∃ r, D.edited.get path = r := ⟨_, rfl⟩
  have HL := Lib.hid (show loadE D path = if r.1.1 = 74 then ((⟨#[]⟩, false, 0), r.2) else if r.1.1 ≠ 0 then ((⟨#[]⟩, false, r.1.1), r.2) else if r.1.2.1.kind ≠ 1 then ((⟨#[]⟩, false, 73), r.2) else ((r.1.2.1.data, true, 0), r.2) by
    unfold loadE; rw [hr])
  have HGE := Lib.hid (show r.1.1 ≠ 0 → r.1.2.1.data = ⟨#[]⟩ from by
    rw [← hr]; exact get_data D.edited path)
  rw [hr] at HG; clear h hr; obtain ⟨⟨er, nd, gi, gs, gt⟩, D2⟩ := r; unfold getVal at HG; dsimp only at HG HL HGE
  go_enter Tryz.func29, Tryz.ntmps29
  go_wp2_with fail
  refine HG.out.mono ?_
  rintro e w2 ⟨rfl, hT⟩; have HT := Lib.hid (hT.off (show Off [] w2 ((w2.alloc (.cells #[.string nd.path, .int .i64 nd.kind, .string nd.data, .int .i64 nd.mode] 30)).alloc (.cells #[.int .i64 gi, .int .i64 gs, .int .i64 gt] 39)) from ((Off.refl _ _).alloc _).alloc _)); clear hT HG
  by_cases h74 : er = 74
  · have hq : (er == 74) = true := by rw [h74]; rfl
    have HF := Lib.hid (show loadE D path = ((⟨#[]⟩, false, 0), D2) by rw [HL.out, if_pos h74]); clear h74 HL
    go_wp2_with fail
    go_ret3
    rw [HF.out]; exact ⟨rfl, HT.out⟩
  have hq : (er == 74) = false := beq_eq_false_iff_ne.2 h74
  by_cases h0 : er = 0
  · have hq0 : (er == 0) = true := by rw [h0]; rfl
    by_cases hk : nd.kind = 1
    · have hqk : (nd.kind == 1) = true := by rw [hk]; rfl
      have HF := Lib.hid (show loadE D path = ((nd.data, true, er), D2) by rw [HL.out, if_neg h74, if_neg (by rw [h0]; decide), if_neg (by rw [hk]; decide), h0]); clear h74 h0 hk HL
      go_wp2_with fail
      go_ret3
      rw [HF.out]; exact ⟨rfl, HT.out⟩
    have hqk : (nd.kind == 1) = false := beq_eq_false_iff_ne.2 hk
    have HF := Lib.hid (show loadE D path = ((⟨#[]⟩, false, 73), D2) by rw [HL.out, if_neg h74, if_neg (by rw [h0]; decide), if_pos hk]); clear h74 h0 hk HL
    go_wp2_with fail
    go_ret3
    rw [HF.out]; exact ⟨rfl, HT.out⟩
  have hq0 : (er == 0) = false := beq_eq_false_iff_ne.2 h0
  have hnd := HGE.out h0; have HF := Lib.hid (show loadE D path = ((⟨#[]⟩, false, er), D2) by rw [HL.out, if_neg h74, if_pos h0]); clear h74 h0 HL; obtain ⟨np, nk, ndd, nm⟩ := nd; dsimp only at hnd HT ⊢; subst hnd
  go_wp2_with fail
  go_ret3
  rw [HF.out]; exact ⟨rfl, HT.out⟩
end
section
open Go.RowKit Go.Op Go.Maps
theorem eqDid (a b c : ByteArray) (w : World) : (Op.equalIn 10000 73 (.agg #[.string a, .string b, .string c]) (.agg #[.string a, .string b, .string c])).run Tryz.prog w = .ok true w := by
  have u3 := Tryz.underlying9; have a3 := Tryz.isAgg9; have z3 := Tryz.sizeOf9; have hS : Tryz.prog.underlying 73 = some (.struct (Tryz.prog.fieldsOf 73)) := by kernel_rfl
  have hp : Tryz.prog.stoodInHeld 73 = false := by kernel_rfl
  rw [show (10000 : Nat) = 9999 + 1 from rfl, run_equalIn_agg w 9999 73 _ _ hS hp]; simp only [Program.fieldsOf, Tryz.underlying73]
  go_simp
theorem did_get7 {l : List DidP} {i : Nat} {x : DidP} (h : l[i]? = some x) (k : Nat) (hk : k < 3) : (didCells l)[i * 3 + k]? = [Value.string x.call, .string x.path, .string x.dest][k]? :=
  flat_get (fun x : DidP => [Value.string x.call, .string x.path, .string x.dest]) 3 (fun _ => rfl) l i k x h hk
theorem same_own7 {w : World} {b1 b2 : Nat} {v1 v2 : Value} {L : List Node} (h1 : w.ownsRow b1 30 4 v1 L.length (cellsOf L)) (h2 : w.ownsRow b2 30 4 v2 L.length (cellsOf L)) (hl : L.length ≤ 100000) :
    Calls Tryz.prog 32 #[v1, v2] w fun e w' => e = .returned (.bool true) ∧ Off [] w w' := by
  obtain ⟨p, c, rfl, hp, -⟩ := own_row h1; obtain ⟨q, d, rfl, hq, -⟩ := own_row h2; have := rsame_any L L p q c d w (by omega) (by omega) hp hq; rw [decide_eq_true rfl] at this; exact this
section
variable {w0 w w' : World} {gd gr n : Nat} {D E : PDisk} {A : RArg} {G : RGeo} {kx : List Nat}
end
end
section
open Go.RowKit Go.Op Go.Maps
structure OpP where
  what : Int
  path : ByteArray
  text : ByteArray
structure OpAt (w : World) (a : Addr) (c : OpP) : Prop where
  what : w.cell? a = some (.int .i64 c.what)
  path : w.cell? ⟨a.block, a.off + 1, none⟩ = some (.string c.path)
  text : w.cell? ⟨a.block, a.off + 2, none⟩ = some (.string c.text)
def ORow (w : World) (p : Option Addr) (cs : List OpP) : Prop :=
  cs ≠ [] → ∃ a, p = some a ∧ a.block < w.heap.size ∧ ∀ (i : Nat) (c : OpP), cs[i]? = some c → OpAt w (a.add (i * 3)) c
theorem OpAt.off {w w' : World} {a : Addr} {c : OpP} (h : OpAt w a c) (ho : Off [] w w') (hb : a.block < w.heap.size) : OpAt w' a c :=
  ⟨(ho.cell hb (by simp)).trans h.what, (ho.cell (p := ⟨a.block, a.off + 1, none⟩) hb (by simp)).trans h.path, (ho.cell (p := ⟨a.block, a.off + 2, none⟩) hb (by simp)).trans h.text⟩
theorem ORow.off {w w' : World} {p : Option Addr} {cs : List OpP} (h : ORow w p cs) (ho : Off [] w w') : ORow w' p cs := fun hne => by
  obtain ⟨a, rfl, hb, hn⟩ := h hne; exact ⟨a, rfl, Nat.lt_of_lt_of_le hb ho.size, fun i n hi => (hn i n hi).off ho (by rw [add_block]; exact hb)⟩
theorem ORow.get {w : World} {p : Option Addr} {cs : List OpP} (h : ORow w p cs) (i : Nat) (hi : i < cs.length) : ∃ a, p = some a ∧ OpAt w (a.add (i * 3)) cs[i] ∧ a.block < w.heap.size := by
  obtain ⟨a, rfl, hb, hn⟩ := h (by intro e; subst e; simp at hi); exact ⟨a, rfl, hn i _ (List.getElem?_eq_getElem hi), hb⟩
def KeepFE (D E : PDisk) : Prop := E.fates = D.fates ∧ E.edits = D.edits
theorem untilE_fe : ∀ (l : List CallP) (D : PDisk), (∀ c ∈ l, ∀ D, KeepFE D (askE D c).2) → KeepFE D (untilE l D).2
  | [], D, _ => ⟨rfl, rfl⟩
  | c :: l, D, h => by
    have h1 := h c (List.mem_cons_self ..) D; have h2 := untilE_fe l (askE D c).2 (fun x hx => h x (List.mem_cons_of_mem _ hx))
    show KeepFE D (if (askE D c).1.err ≠ 0 then ((askE D c).1.err, (askE D c).2) else untilE l (askE D c).2).2
    split
    · exact h1
    exact ⟨h2.1.trans h1.1, h2.2.trans h1.2⟩
theorem fe_wr (b text : ByteArray) (D : PDisk) : KeepFE D (askE D (sWr b text)).2 := ⟨(write_fates _ _ _ _).trans (edited_fates D), (write_edits _ _ _ _).trans (edited_edits D)⟩
theorem fe_sy (b : ByteArray) (D : PDisk) : KeepFE D (askE D (sSy b)).2 := ⟨(sync_fates _ _).trans (edited_fates D), (sync_edits _ _).trans (edited_edits D)⟩
theorem fe_rp (b q : ByteArray) (D : PDisk) : KeepFE D (askE D (sRp b q)).2 := ⟨(replace_fates _ _ _).trans (edited_fates D), (replace_edits _ _ _).trans (edited_edits D)⟩
theorem fe_rm (b : ByteArray) (D : PDisk) : KeepFE D (askE D (sRm b)).2 := ⟨(remove_fates _ _).trans (edited_fates D), (remove_edits _ _).trans (edited_edits D)⟩
theorem fe_fl (D : PDisk) : KeepFE D (askE D sFl).2 := ⟨(flush_fates _).trans (edited_fates D), (flush_edits _).trans (edited_edits D)⟩
theorem fe_save (D : PDisk) (path text : ByteArray) : KeepFE D (saveE D path text).2 := untilE_fe _ _ fun c hc => by
  unfold saveL at hc; simp only [List.mem_cons, List.not_mem_nil, or_false] at hc
  rcases hc with rfl | rfl | rfl | rfl
  · exact fe_wr _ _
  · exact fe_sy _
  · exact fe_rp _ _
  exact fe_fl
theorem fe_clear (D : PDisk) (path : ByteArray) : KeepFE D (clearE D path).2 := untilE_fe _ _ fun c hc => by
  unfold clearL at hc; simp only [List.mem_cons, List.not_mem_nil, or_false] at hc
  rcases hc with rfl | rfl
  · exact fe_rm _
  exact fe_fl
theorem fe_load (D : PDisk) (path : ByteArray) : KeepFE D (loadE D path).2 := by
  have h : (loadE D path).2 = (D.edited.get path).2 := by
    unfold loadE
    split
    · rfl
    split
    · rfl
    split <;> rfl
  rw [h]; exact ⟨(get_fates _ _).trans (edited_fates D), (get_edits _ _).trans (edited_edits D)⟩
section
variable {w0 w w' : World} {gd gr n m C : Nat} {R D E : PDisk} {A : RArg} {G : RGeo} {kx : List Nat}
theorem Pair.rst (h : Pair w0 w gd gr D E m A G kx) (hI : InvE C D n) : RSt A w gr G.blocks C n D w :=
  have hb0 : ∀ {W : World}, Off (gr :: G.blocks) w W → Off [] w0 W := fun hW => h.run.since.trans hW (fun x hx hm => by have := h.base x hm; omega)
  RSt.begin_ h.ref hI fun W hW => ⟨h.arg.1.off (hb0 hW), h.arg.2.off (hb0 hW)⟩
theorem Pair.refd {D' : PDisk} {n' : Nat} (h : Pair w0 w gd gr D E m A G kx) (hT : Tabs w0) (hr : RSt A w gr G.blocks C n' D' w') (hf : KeepFE D D') : (∃ A' G', Pair w0 w' gd gr D' E m A' G' kx) ∧ Off (gr :: G.blocks) w w' := by
  obtain ⟨G', h1, h2, h3, -, -⟩ := hr; have hb : ∀ b ∈ gr :: G'.blocks, b ∈ gr :: G.blocks ∨ w.heap.size ≤ b := fun b hb => by
    rcases List.mem_cons.1 hb with rfl | hb
    · exact .inl (List.mem_cons_self ..)
    rcases h3 b hb with h4 | h4
    · exact .inl (List.mem_cons_of_mem _ h4)
    exact .inr h4
  have hlt : ∀ b ∈ gr :: G'.blocks, b < w'.heap.size := fun b hb => by
    rcases List.mem_cons.1 hb with rfl | hb
    · exact h1.blk.lt
    exact h1.lt hb
  have hkx : ∀ b ∈ kx, b < w.heap.size := fun b hb => by
    obtain ⟨_, _, _, _, _, h5⟩ := h.run; exact (h5 b (List.mem_append_right _ hb)).1
  refine ⟨⟨A, G', h.run.wrote7 hT h2 (fun b hb => ⟨List.mem_append_left _ hb, h.base b hb⟩) (fun b hb2 => ?_), h1, fun b hb2 => ?_, by rw [hf.1, hf.2]; exact h.arg, fun b hb2 hm => ?_⟩, h2⟩
  · rcases List.mem_append.1 hb2 with hb2 | hb2
    · rcases hb b hb2 with h4 | h4
      · exact .inl (List.mem_append_left _ h4)
      exact .inr ⟨h4, hlt b hb2⟩
    exact .inl (List.mem_append_right _ hb2)
  · rcases hb b hb2 with h4 | h4
    · exact h.base b h4
    exact Nat.le_trans h.run.since.size h4
  rcases hb b hm with h4 | h4
  · exact h.far b hb2 h4
  have := hkx b hb2; omega
theorem Pair.ran (h : Pair w0 w gd gr R D n A G kx) (hr : RunE w0 w' gd E m ((gr :: G.blocks) ++ kx)) (hk : Kept ((gr :: G.blocks) ++ kx) w w') : Pair w0 w' gd gr R E m A G kx ∧ Kept kx w w' :=
  ⟨⟨hr, h.ref.kept fun b hb => hk b (List.mem_append_left _ hb), h.base, h.arg, h.far⟩, fun b hb => hk b (List.mem_append_right _ hb)⟩
theorem pair_save (path text : ByteArray) (h : Pair w0 w gd gr R D n A G kx) (hI : InvE C D n) (hn : n + 4 * (C + 2) + C ≤ 40000000) (hs : path.size ≤ 1048575) (hs2 : text.size ≤ maxLen) :
    Calls Tryz.prog 22 #[.pointer (some ⟨gd, 0, none⟩), .string path, .string text] w fun e w' => e = .returned (.int .i64 (saveE D path text).1) ∧ Pair w0 w' gd gr R (saveE D path text).2 (n + 4 * (C + 2)) A G kx ∧ Kept kx w w' :=
  (esave_any gd n C D path text w h.run hI hn (by omega) hs2).mono fun _ _ ⟨he, hr, hk⟩ => ⟨he, h.ran hr hk⟩
theorem pair_clear (path : ByteArray) (h : Pair w0 w gd gr R D n A G kx) (hI : InvE C D n) (hn : n + 4 * (C + 2) + C ≤ 40000000) (hs : path.size ≤ 1048575) :
    Calls Tryz.prog 25 #[.pointer (some ⟨gd, 0, none⟩), .string path] w fun e w' => e = .returned (.int .i64 (clearE D path).1) ∧ Pair w0 w' gd gr R (clearE D path).2 (n + 4 * (C + 2)) A G kx ∧ Kept kx w w' :=
  (eclear_any gd n C D path w h.run hI (by omega) (by omega)).mono fun _ _ ⟨he, hr, hk⟩ => ⟨he, h.ran (hr.le (by omega)) hk⟩
theorem pair_load (path : ByteArray) (h : Pair w0 w gd gr R D n A G kx) (hI : InvE C D n) (hn : n + 4 * (C + 2) + C ≤ 40000000) (hs : path.size ≤ 1048575) :
    Calls Tryz.prog 23 #[.pointer (some ⟨gd, 0, none⟩), .string path] w fun e w' => e = .returned (.tuple #[.string (loadE D path).1.1, .bool (loadE D path).1.2.1, .int .i64 (loadE D path).1.2.2]) ∧ Pair w0 w' gd gr R (loadE D path).2 (n + 4 * (C + 2)) A G kx ∧ Kept kx w w' :=
  (eload_any gd n C D path w h.run hI (by omega) (by omega)).mono fun _ _ ⟨he, hr, hk⟩ => ⟨he, h.ran (hr.le (by omega)) hk⟩
theorem pair_rsave (path text : ByteArray) (h : Pair w0 w gd gr D E m A G kx) (hT : Tabs w0) (hI : InvE C D n) (hn : n + 4 * (C + 2) + C ≤ 40000000) (hs : path.size ≤ 1048575) (hs2 : text.size ≤ maxLen) :
    Calls Tryz.prog 28 #[.pointer (some ⟨gr, 0, none⟩), .string path, .string text] w fun e w' => e = .returned (.int .i64 (saveE D path text).1) ∧ (∃ A' G', Pair w0 w' gd gr (saveE D path text).2 E m A' G' kx) ∧ InvE C (saveE D path text).2 (n + 4 * (C + 2)) ∧ Off (gr :: G.blocks) w w' :=
  (r10save_any gr n C D path text w (h.rst hI) hn hs hs2).mono fun _ _ ⟨k, hk, he, hr⟩ => by
    obtain ⟨h1, h2⟩ := h.refd hT hr (fe_save D path text); exact ⟨he, h1, hr.inv.le hk, h2⟩
theorem pair_rclear (path : ByteArray) (h : Pair w0 w gd gr D E m A G kx) (hT : Tabs w0) (hI : InvE C D n) (hn : n + 4 * (C + 2) + C ≤ 40000000) (hs : path.size ≤ 1048575) :
    Calls Tryz.prog 30 #[.pointer (some ⟨gr, 0, none⟩), .string path] w fun e w' => e = .returned (.int .i64 (clearE D path).1) ∧ (∃ A' G', Pair w0 w' gd gr (clearE D path).2 E m A' G' kx) ∧ InvE C (clearE D path).2 (n + 4 * (C + 2)) ∧ Off (gr :: G.blocks) w w' :=
  (r10clear_any gr n C D path w (h.rst hI) (by omega) (by omega)).mono fun _ _ ⟨k, hk, he, hr⟩ => by
    obtain ⟨h1, h2⟩ := h.refd hT hr (fe_clear D path); exact ⟨he, h1, hr.inv.le (by omega), h2⟩
theorem pair_rload (path : ByteArray) (h : Pair w0 w gd gr D E m A G kx) (hT : Tabs w0) (hI : InvE C D n) (hn : n + 4 * (C + 2) + C ≤ 40000000) (hs : path.size ≤ 1048575) :
    Calls Tryz.prog 29 #[.pointer (some ⟨gr, 0, none⟩), .string path] w fun e w' => e = .returned (.tuple #[.string (loadE D path).1.1, .bool (loadE D path).1.2.1, .int .i64 (loadE D path).1.2.2]) ∧ (∃ A' G', Pair w0 w' gd gr (loadE D path).2 E m A' G' kx) ∧ InvE C (loadE D path).2 (n + 4 * (C + 2)) ∧ Off (gr :: G.blocks) w w' :=
  (r10load_any gr n C D path w (h.rst hI) (by omega) (by omega)).mono fun _ _ ⟨he, hr⟩ => by
    obtain ⟨h1, h2⟩ := h.refd hT hr (fe_load D path); exact ⟨he, h1, hr.inv.le (by omega), h2⟩
structure SrI (w0 w : World) (gd gr : Nat) (D : PDisk) (n : Nat) : Prop where
  pair : ∃ A G, Pair w0 w gd gr D D n A G []
  inv : InvE 262144 D n
theorem SrI.of (h : Pair w0 w gd gr D D n A G kx) (hI : InvE 262144 D n) : SrI w0 w gd gr D n := ⟨⟨A, G, h.drop (fun b hb => by cases hb)⟩, hI⟩
theorem SrI.off (h : SrI w0 w gd gr D n) (ho : Off [] w w') : SrI w0 w' gd gr D n := by
  obtain ⟨⟨A, G, h1⟩, h2⟩ := h; exact ⟨⟨A, G, h1.off ho⟩, h2⟩
end
end
end Go.Proofs.YtgcfkljooabjjaaGreatDoor
