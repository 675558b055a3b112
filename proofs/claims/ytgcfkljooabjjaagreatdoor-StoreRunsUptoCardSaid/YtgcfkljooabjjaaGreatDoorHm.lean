/- Texts of this claim, one behind the other: REdit. Conditions: what each lemma states. -/
import Derived.Test.YtgcfkljooabjjaaGreatDoorHl
namespace Go.Proofs.YtgcfkljooabjjaaGreatDoor
open Go.RowKit Go.Op Go.Maps
variable {A : RArg}
theorem fits1_tree7 {t : List Node} (h : okTree t = true) : Fits1 t := fun n hn => by
  have h1 := okPath_size (okTree_path h hn); rw [show n.p = str n.path from rfl, str_size] at h1; have h2 := rightN_data (okTree_right h hn); omega
theorem node_get7 {l : List Node} {i : Nat} {n : Node} (h : l[i]? = some n) (k : Nat) (hk : k < 4) : (cellsOf l)[i * 4 + k]? = [Value.string n.path, .int .i64 n.kind, .string n.data, .int .i64 n.mode][k]? :=
  flat_get (fun n : Node => [Value.string n.path, .int .i64 n.kind, .string n.data, .int .i64 n.mode]) 4 (fun _ => rfl) l i k n h hk
structure KeepT (ts : List TypeId) (w w' : World) : Prop where
  row : ∀ {base e sz n : Nat} {v : Value} {xs : List Value}, w.ownsRow base e sz v n xs → e ∉ ts → w'.ownsRow base e sz v n xs
  blk : ∀ {g : Nat} {t : TypeId} {cs : Array Value}, Blk w g t cs → t ∉ ts → Blk w' g t cs
  size : w.heap.size ≤ w'.heap.size
theorem Only.keepT {w w' : World} {k : List Nat} {ts : List TypeId} (hO : Only w k ts) (ho : Off k w w') : KeepT ts w w' :=
  ⟨fun h he => hO.row ho h he, fun {g t cs} h ht => h.off ho fun hm => by
    obtain ⟨t2, ht2, cs2, hB2⟩ := hO g hm; exact h.ne_ hB2 (fun e2 => ht (e2 ▸ ht2)) rfl, ho.size⟩
theorem push_keep {W w7 : World} {p : Nat} {G : RGeo} {E : PDisk} {o : Obj} {v : Value} (hM : RefM A W p G E) (hg : (W.drew.alloc o).grownBy w7 G.iv.ownBlock) : KeepT [69, 125] W (w7.setCell ⟨p, 3, none⟩ v) := by
  refine Only.keepT (k := p :: G.iv.ownBlock.toList) (fun b hb => ?_) ?_
  · rcases List.mem_cons.1 hb with rfl | hb
    · exact ⟨_, by simp, _, hM.blk⟩
    obtain ⟨cs, hB⟩ := own_blks hM.inos b hb; exact ⟨_, by simp, _, hB⟩
  exact ((((Off.refl (p :: G.iv.ownBlock.toList) W).drew).alloc o).grown hg (fun k hk => .inr (by rw [hk]; simp))).setCell (p := ⟨p, 3, none⟩) (.inr (List.mem_cons_self ..)) _
theorem RefS.offk {w W W' : World} {p : Nat} {L k : List Nat} {G : RGeo} {E : PDisk} (h : RefS A w p L W G E) (ho : Off k W W') (hp : p ∉ k) (hb : ∀ b ∈ G.blocks, b ∉ k) (hk : ∀ b ∈ k, w.heap.size ≤ b) : RefS A w p L W' G E :=
  ⟨h.1.off ho hp hb, h.2.1.trans ho fun x hx hm => by have := hk x hm; omega, h.2.2⟩
theorem built_far {w W : World} {p : Nat} {G : RGeo} {E0 E : PDisk} {iv v : Value} {n : Nat} {xs : List Value} (h0 : RefM A w p G E0) (h : RefS A w p G.blocks W { G with iv := iv } E) (hv : W.ownsRow w.heap.size 127 2 v n xs) :
    p ∉ v.ownBlock.toList ∧ (∀ b ∈ ({ G with iv := iv } : RGeo).blocks, b ∉ v.ownBlock.toList) ∧ ∀ b ∈ v.ownBlock.toList, w.heap.size ≤ b := by
  have hm := own_made7 hv; have hl : ∀ b ∈ G.blocks, b ∉ v.ownBlock.toList := fun b hb hv2 => by
    have := h0.lt hb; have := hm b hv2; omega
  refine ⟨fun hp => ?_, fun b hb hv2 => ?_, hm⟩
  · have := h0.blk.lt
    have := hm p hp; omega
  rcases mem_blocks.1 hb with hb | hb | hb | hb | hb | hb | hb
  · exact hl b (mem_blocks.2 (.inl hb)) hv2
  · exact hl b (mem_blocks.2 (.inr (.inl hb))) hv2
  · exact hl b (mem_blocks.2 (.inr (.inr (.inl hb)))) hv2
  · exact hl b (mem_blocks.2 (.inr (.inr (.inr (.inl hb))))) hv2
  · obtain ⟨c1, k1⟩ := own_blks h.1.inos b hb
    obtain ⟨c2, k2⟩ := own_blks hv b hv2; exact k1.ne_ k2 (by decide) rfl
  · exact hl b (mem_blocks.2 (.inr (.inr (.inr (.inr (.inr (.inl hb))))))) hv2
  exact hl b (mem_blocks.2 (.inr (.inr (.inr (.inr (.inr (.inr hb))))))) hv2
def edI (D : PDisk) (path : ByteArray) (X : List Node) (i : Nat) : PDisk :=
  { norm D with inos := (norm D).inos ++ (laidL (X.take i) path).map fun x => (⟨x, (D.clock : Int) + 1, false⟩ : Ino) }
section
variable {D : PDisk} {path : ByteArray} {X : List Node} {i : Nat} {x : Node}
theorem edI_zero : edI D path X 0 = norm D := by unfold edI laidL; simp
theorem edI_in (hx : X[i]? = some x) (hw : within (str x.path) (str path) = true) : edI D path X (i + 1) = { edI D path X i with inos := (edI D path X i).inos ++ [⟨x, (D.clock : Int) + 1, false⟩] } := by
  unfold edI; rw [List.take_add_one, hx, show (some x).toList = [x] from rfl, laidL_snoc, if_pos (show within x.p (str path) = true from hw), List.map_append, List.append_assoc]
  rfl
theorem edI_out (hx : X[i]? = some x) (hw : within (str x.path) (str path) = false) : edI D path X (i + 1) = edI D path X i := by
  unfold edI; rw [List.take_add_one, hx, show (some x).toList = [x] from rfl, laidL_snoc, if_neg (by rw [show within x.p (str path) = false from hw]; decide), List.append_nil]
theorem edI_len : (edI D path X i).inos.length = D.inos.length + (laidL (X.take i) path).length := by
  unfold edI norm; dsimp only; rw [List.length_append, List.length_map]
theorem laid_le : (laidL (X.take i) path).length ≤ X.length := by
  have h1 : (laidL (X.take i) path).length ≤ (X.take i).length := List.length_filter_le _ _
  have h2 : (X.take i).length ≤ X.length := by rw [List.length_take]; omega
  omega
theorem led_in (N : NameL) (k : Nat) (hx : X[i]? = some x) (hw : within (str x.path) (str path) = true) : ledL N path (X.take (i + 1)) k = ledL N path (X.take i) k ++ [(x.path, k + (laidL (X.take i) path).length + 1)] := by
  rw [List.take_add_one, hx, show (some x).toList = [x] from rfl, ledL_snoc, if_pos (show within x.p (str path) = true from hw)]
theorem led_out (N : NameL) (k : Nat) (hx : X[i]? = some x) (hw : within (str x.path) (str path) = false) : ledL N path (X.take (i + 1)) k = ledL N path (X.take i) k ++ [(x.path, lookN N x.path)] := by
  rw [List.take_add_one, hx, show (some x).toList = [x] from rfl, ledL_snoc, if_neg (by rw [show within x.p (str path) = false from hw]; decide)]
end
theorem stays_first {D : PDisk} {n : Nat} (hk : Ok D n) (ha : Apart D.names) {path : ByteArray} {v X : List Node} (h : PutWell D.tree path v X) {x : Node} (hx : x ∈ X) (hw : within (str x.path) (str path) = false) : ∃ j, firstI (norm D).names x.path = (j : Nat) ∧ (norm D).names[j]? = some (x.path, lookN (norm D).names x.path) := by
  obtain ⟨hy, -⟩ := (put_mem h).1 ⟨hx, (hw : within x.p (str path) = false)⟩; obtain ⟨z, hz, m, -, rfl⟩ := node_tree hk ha hy
  cases hf : firstN (norm D).names z.1 with
  | none =>
    have := firstN_none.1 hf; have h2 : hasN (norm D).names z.1 = true := (hasN_iff _ _).2 ⟨z, sortN_mem.2 hz, rfl⟩
    rw [h2] at this
    cases this
  | some j => exact ⟨j, by unfold firstI; rw [show ({ m.node with path := z.1 } : Node).path = z.1 from rfl, hf], (firstN_some hf).1⟩
def EdMid (A : RArg) (w W : World) (p : Nat) (G : RGeo) (D : PDisk) (path : ByteArray) (X : List Node) (xv bx : Value) (bc : Array Value) (i : Nat) (v : Value) (wr : World) : Prop :=
  ∃ iv, RefS A w p G.blocks wr { G with iv := iv } (edI D path X i) ∧ wr.ownsRow w.heap.size 127 2 v i (entCells (ledL (norm D).names path (X.take i) D.inos.length)) ∧ wr.ownsRow W.heap.size 30 4 xv X.length (cellsOf X) ∧ Blk wr w.heap.size 104 bc ∧ W.heap.size ≤ wr.heap.size ∧ bx = xv
theorem cell_lt7 {w : World} {g j : Nat} {u : Value} (h : w.cell? ⟨g, j, none⟩ = some u) : g < w.heap.size := by
  rcases Nat.lt_or_ge g w.heap.size with h1 | h1
  · exact h1
  exfalso
  unfold World.cell? at h; simp [Array.getElem?_eq_none h1] at h
theorem grow_keep {W2 wA w7 : World} {base n : Nat} {v : Value} {xs : List Value} {o : Obj} (hl : W2.ownsRow base 127 2 v n xs) (hoB : Off [] W2 wA) (hg : (wA.alloc o).grownBy w7 v.ownBlock) : Off v.ownBlock.toList W2 w7 ∧ KeepT [127] W2 w7 := by
  have ho : Off v.ownBlock.toList W2 w7 := ((hoB.mono (fun _ _ h => by cases h)).alloc o).grown hg (fun k hk => .inr (by rw [hk]; simp))
  refine ⟨ho, Only.keepT (fun b hb => ?_) ho⟩
  obtain ⟨cs, hB⟩ := own_blks hl b hb; exact ⟨_, by simp, _, hB⟩
theorem ed_next {w W W2 w7 wA : World} {p i : Nat} {G : RGeo} {D E' : PDisk} {path : ByteArray} {X : List Node} {iv v v' xv : Value} {bc : Array Value} {o : Obj} {l : NameL} {z : ByteArray × Nat} (h0 : RefM A w p G (norm D)) (hS : RefS A w p G.blocks W2 { G with iv := iv } E') (hE : edI D path X (i + 1) = E')
    (hl : W2.ownsRow w.heap.size 127 2 v i (entCells l)) (hl' : ledL (norm D).names path (X.take (i + 1)) D.inos.length = l ++ [z]) (hX : W2.ownsRow W.heap.size 30 4 xv X.length (cellsOf X)) (hb : Blk W2 w.heap.size 104 bc) (hW : W.heap.size ≤ W2.heap.size)
    (hoB : Off [] W2 wA) (hg : (wA.alloc o).grownBy w7 v.ownBlock) (hown : w7.ownsRow w.heap.size 127 2 v' (i + 1) (entCells l ++ [.string z.1, .int .i64 z.2])) : EdMid A w W p G D path X xv xv bc (i + 1) v' w7 := by
  obtain ⟨ho, hK⟩ := grow_keep hl hoB hg; obtain ⟨f1, f2, f3⟩ := built_far h0 hS hl; refine ⟨iv, ?_, ?_, hK.row hX (by decide), hK.blk hb (by decide), Nat.le_trans hW hK.size, rfl⟩
  · rw [hE]
    exact hS.offk ho f1 f2 f3
  rw [hl', entCells_snoc]; exact hown
set_option maxRecDepth 100000 in
set_option maxHeartbeats 16000000 in
theorem r7edit_any (p n : Nat) (G : RGeo) (D : PDisk) (e : EditP) (uv : Value) (w : World) (h : RefM A w p G (norm D)) (hf : Fine D n) (hs : Slim D) (hn : n ≤ 50000000) (hV : ArgV w uv e.value) (hv1 : Fits1 e.value) (hvl : e.value.length ≤ 1000000000) (hps : e.path.size ≤ 1048576) :
    Calls Tryz.prog 133 #[.pointer (some ⟨p, 0, none⟩), .agg #[.int .i64 e.at_, .string e.path, uv]] w fun e' w' => e' = .returned (.tuple #[]) ∧ RefTo A w p G.blocks w' (norm (D.edit e)) := by
  obtain ⟨q, d, rfl, hqd, hdm, hqn, hFV, hRV⟩ := hV; obtain ⟨vn, hvn⟩ : ∃ vn, e.value.length = vn := ⟨_, rfl⟩
  rw [hvn] at hqd hvl ⊢; obtain ⟨i0, hi0, hz0, hz1, hz2⟩ := info_parts infoIno; obtain ⟨i1, hi1, hy0, hy1, hy2⟩ := info_parts infoEnt; have H := Lib.hid h; have HF := Lib.hid (hf.facts (by omega)); obtain ⟨T, hTT⟩ : ∃ T, D.tree = T := ⟨_, rfl⟩
  have hok : okTree T = true := by rw [← hTT]; exact tree_ok hf hs
  have htl := okTree_len hok; obtain ⟨tl, hte⟩ : ∃ tl, T.length = tl := ⟨_, rfl⟩
  rw [hte] at htl; have HTE := Lib.hid hte; have HTR := Lib.hid (fun (W : World) (ho : Off [] w W) => r7tree_any p G (norm D) W (h.off_nil ho) (fun x hx => by
    obtain ⟨m, h1, -⟩ := hf.ok.inode hf.good.names (sortN_mem.1 hx); exact ⟨m, h1⟩) (by have := (hf.facts (by omega)).nl; omega))
  rw [norm_tree, hTT] at HTR; have HPU := Lib.hid (fun (W : World) (ho : Off [] w W) (pt : Option Addr) (c : Nat) (hr : Row W pt T) => rput_any pt q T e.value tl vn c d e.path W hr (hRV.off ho) hte hvn hqd hdm (by omega) (by omega) (fits1_tree7 hok) hv1 hps); have HFI := Lib.hid hf; have HTT := Lib.hid hTT; obtain ⟨X, er, hX⟩ : ∃ X er, putR T e.path e.value = (X, er) := ⟨_, _, rfl⟩
  rw [hX] at HPU; have HX := Lib.hid hX; obtain ⟨xn, hxn⟩ : ∃ xn, X.length = xn := ⟨_, rfl⟩
  have HXN := Lib.hid hxn; have HGE := Lib.hid (show ∀ b, b ∈ p :: G.blocks → b < w.heap.size from fun b hb => by
    rcases List.mem_cons.1 hb with rfl | hb
    · exact h.blk.lt
    exact h.lt hb)
  have HNB := Lib.hid hn; have HPS := Lib.hid hps; clear h hf hs hn hqd hdm hqn hFV hRV hvn hvl hv1 hps hTT hok hte hX hxn
  go_enter Tryz.func133, Tryz.ntmps133
  go_upto_region 1 with fail
  refine code_gen (fun W => Blk W w.heap.size 104 #[.int .i64 e.at_, .string e.path, .slice q vn d] ∧ Off [] w W) ⟨Blk.new w _ _, (Off.refl _ _).alloc _⟩ ?_
  rintro W ⟨hbe, hof⟩; have HBE := Lib.hid hbe; have HOF := Lib.hid hof; have hce := hbe.cell; have hle := hbe.lt; clear hbe hof
  go_cut [4, 5] from 8 to 17 (fun a s wx => ∃ px cx, a = .slice px xn cx ∧ s = .int .i64 er ∧ wx.ownsRow W.heap.size 30 4 (.slice px xn cx) xn (cellsOf X) ∧ Off [] W wx)
  case first =>
    have hch := Off.refl [] W.drew; have hC := HBE.out.drew
    go_region_held3 (fun w' => (∀ i, w'.cell? ⟨w.heap.size, i, none⟩ = (#[.int .i64 e.at_, .string e.path, .slice q vn d] : Array Value)[i]?)) (first | assumption | exact hC.cell) (first
      | (go_at_call 33; refine (HTR.out _ (HOF.out.trans_nil ((Off.refl [] W).drew.trans_nil hch))).mono ?_; rintro e' wA ⟨v, rfl, hrow, hoA⟩; obtain ⟨pt, ct, hv, hrr, hct, hcm, hpn⟩ := Sl.own hrow; rw [HTE.out] at hv hct; subst hv; have hch := hch.trans_nil hoA; have hC := hC.off hoA (by simp))
      | (go_at_call 154; refine (HPU.out _ (HOF.out.trans_nil ((Off.refl [] W).drew.trans_nil hch)) pt ct hrr).mono ?_; rintro e' wB ⟨xv, rfl, hown, hoB⟩; obtain ⟨px, cx, hxv, -, -, -, -⟩ := Sl.own hown; rw [HXN.out] at hxv hown; subst hxv; have hown := own_base hown (show W.heap.size ≤ _ from Nat.le_trans (show W.heap.size ≤ _ from Nat.le_refl _) hch.size); have hch := hch.trans_nil hoB; have hC := hC.off hoB (by simp)))
    all_goals go_wp2_with fail
    all_goals go_meet
    all_goals exact ⟨px, cx, rfl, rfl, hown, (Off.refl [] W).drew.trans_nil hch⟩
  case rest =>
    obtain ⟨px, cx, rfl, rfl, hown, hox⟩ := hcut; have HOWN := Lib.hid hown; have HOX := Lib.hid (HOF.out.trans_nil hox); have HBX := Lib.hid (HBE.out.off hox (by simp)); have HWX := Lib.hid (show W.heap.size ≤ wc.heap.size from hox.size); have HWS := Lib.hid (show w.heap.size ≤ W.heap.size from HOF.out.size); clear hown hox hce hle
    by_cases he : er = 0
    case neg =>
      have HE := Lib.hid (show D.edit e = D by
        unfold PDisk.edit; rw [HTT.out, HX.out]; exact if_pos he)
      have he2 : (er == 0) = false := beq_eq_false_iff_ne.2 he
      clear he
      go_wp2_with fail
      refine bodyPost_ret (results_none rfl _ _ _) rfl ?_
      refine ⟨rfl, ?_⟩
      rw [HE.out]; exact RefTo.off H.out HOX.out
    subst he; have hw : PutWell D.tree e.path e.value X := by
      rcases putR_cases T e.path e.value with ⟨h1, -⟩ | ⟨-, h1⟩
      · rw [HX.out] at h1; exact absurd rfl h1
      rw [HX.out] at h1; rw [HTT.out]; exact h1
    have hxl := okTree_len hw.okx; have hxp : ∀ y ∈ X, y.path.size ≤ 400 := fun y hy => by
      have := okPath_size (okTree_path hw.okx hy)
      rwa [show y.p = str y.path from rfl, str_size] at this
    have HXP := Lib.hid hxp; have HW := Lib.hid hw; have HE := Lib.hid (norm_edit HFI.out.ok HFI.out.good.names (by rw [HTT.out, HX.out]) (by rw [HTT.out, HX.out]) hw); have hio : D.inos.length ≤ 60000000 := by have := HFI.out.ok.inos; have := HNB.out; omega
    have HIO := Lib.hid hio; have hcl : (D.clock : Int) ≤ 100000000 := by have := HF.out.cl; have h2 : (norm D).clock = D.clock := rfl; omega
    have HCL := Lib.hid hcl; rw [HXN.out] at hxl; clear hw hxp hio hcl; have HST := Lib.hid (show EdMid A w W p G D e.path X (.slice px xn cx) (.slice px xn cx) #[.int .i64 e.at_, .string e.path, .slice q vn d] 0 (.slice none 0 0) wc from ⟨G.iv, by
      rw [edI_zero]; exact (RefS.refl H.out).off HOX.out, by
      rw [List.take_zero]; exact ⟨rfl, .inl ⟨rfl, rfl⟩⟩, by rw [HXN.out]; exact HOWN.out, HBX.out, HWX.out, rfl⟩)
    clear HOWN HOX HBX HWX
    go_wp2_with fail
    go_loopw [6, 7] (fun v x wr => ∃ i : Nat, x = .int .i64 i ∧ i ≤ xn ∧ Hid (EdMid A w W p G D e.path X (.slice px xn cx) (.slice px xn cx) #[.int .i64 e.at_, .string e.path, .slice q vn d] i v wr)) (fun _ x _ => xn - (intOf x).toNat)
    case atStart => exact ⟨0, rfl, by omega, HST⟩
    case round =>
      clear HST; obtain ⟨i, rfl, hi, HI⟩ := hrel; obtain ⟨iv, hS, hl, hXr, hbe, hWs, -⟩ := HI.out; obtain ⟨pv, cv, rfl, -, -, -⟩ := own_at hl
      by_cases hlt : i < xn
      · obtain ⟨x, hx⟩ : ∃ x, X[i]? = some x := ⟨_, List.getElem?_eq_getElem (by rw [HXN.out]; exact hlt)⟩
        rw [HXN.out] at hXr; obtain ⟨px', cx', hxv, hxc, hxm, hxr⟩ := own_at hXr; obtain ⟨gx, hpx, -, hgx, -, hcell⟩ := hxr (by omega); obtain ⟨rfl, rfl⟩ : px = px' ∧ cx = cx' := by simpa using hxv
        subst hpx; have a0 : wr.cell? ⟨gx, i * 4, none⟩ = some (.string x.path) := hcell _ _ (node_get7 hx 0 (by omega))
        have a1 : wr.cell? ⟨gx, i * 4 + 1, none⟩ = some (.int .i64 x.kind) := hcell _ _ (node_get7 hx 1 (by omega))
        have a2 : wr.cell? ⟨gx, i * 4 + 2, none⟩ = some (.string x.data) := hcell _ _ (node_get7 hx 2 (by omega))
        have a3 : wr.cell? ⟨gx, i * 4 + 3, none⟩ = some (.int .i64 x.mode) := hcell _ _ (node_get7 hx 3 (by omega))
        unfold maxLen at hxm; have b1 := hbe.cell; have hbl := hbe.lt; have HS := Lib.hid hS; have HL := Lib.hid hl; have HXR := Lib.hid hXr; have HBE := Lib.hid hbe; have hilt : (i : Int) < xn := by omega
        have hxs : x.path.size ≤ 1048576 := by have := HXP.out x (List.mem_of_getElem? hx); omega
        have HXS := Lib.hid hxs; have HXI := Lib.hid hx; obtain ⟨xp, xk, xd, xm⟩ := x; dsimp only at a0 a1 a2 a3; have HWL := Lib.hid hWs; have hxx := fun (x : World) (p : Addr) (hp : p.block < wr.heap.size) => ext_cell hp x
        clear hS hl hXr hbe hcell hxr hxv hx hxs HI hWs
        cases hwi : within (str xp) (str e.path)
        · have HWI := Lib.hid hwi
          have HLD := Lib.hid (led_out (norm D).names D.inos.length HXI.out hwi); have HEI := Lib.hid (edI_out (D := D) HXI.out hwi); obtain ⟨j, hj1, hj2⟩ := stays_first HFI.out.ok HFI.out.good.names HW.out (List.mem_of_getElem? HXI.out) hwi; have HJ1 := Lib.hid hj1; have HJ2 := Lib.hid hj2; clear hwi hj1 hj2
          go_wp2_with fail
          refine wp_region_ext (by kernel_rfl) (by kernel_rfl) ?_
          repeat (go_big_quiet_step (first
            | (go_at_call 112; exact Calls.ext_of (rwithin_v xp e.path _ HXS.out HPS.out false HWI.out))))
          refine wpQuiet_nil ?_
          rintro W2 ⟨x2, rfl⟩; have hoE := ext_off wr x2; clear hxx a0 a1 a2 a3 b1 hbl hgx; generalize ext wr x2 = W2 at *; have HO2 := Lib.hid hoE; have hS2 := HS.out.off hoE; have HS2 := Lib.hid hS2; have HL2 := Lib.hid (own_offk (k := []) HL.out hoE (by simp)); have HXR2 := Lib.hid (own_offk (k := []) HXR.out hoE (by simp)); have HBE2 := Lib.hid (HBE.out.off hoE (by simp))
          obtain ⟨g1, c1, e1, hl1, hc1, hm1, hg1, ⟨csn, hBg1⟩, hn0, hn1⟩ := hS2.1.ent HJ2.out; have hcp := hS2.1.blk.cell; have hBp := hS2.1.blk; have hlp := hBp.lt; unfold refCells at hcp; dsimp only at hcp e1; rw [e1] at hcp; obtain ⟨nn, hnn⟩ : ∃ nn, (edI D e.path X i).names.length = nn := ⟨_, rfl⟩
          rw [hnn] at hcp hl1 hc1; have hs0 : W2.cell? ⟨p, 0, none⟩ = some (.slice (some ⟨g1, 0, none⟩) nn c1) := hcp 0
          have hx0 : W2.cell? ⟨gx, i * 4, none⟩ = some (.string xp) := own_cell2 HXR2.out (node_get7 HXI.out 0 (by omega))
          obtain ⟨lk, hlk⟩ : ∃ lk, lookN (norm D).names xp = lk := ⟨_, rfl⟩
          rw [hlk] at HLD; have hn0 : W2.cell? ⟨g1, j * 2, none⟩ = some (.string xp) := hn0
          have hn1 : W2.cell? ⟨g1, j * 2 + 1, none⟩ = some (.int .i64 lk) := by rw [← hlk]; exact hn1
          have hgx : gx < W2.heap.size := by
            obtain ⟨cs, hB⟩ := own_blks HXR2.out gx (by simp [Value.ownBlock]); exact hB.lt
          have HFW := Lib.hid (fun (W : World) (ho : Off [] W2 W) => rfind_any p _ _ xp W (HS2.out.1.off_nil ho)); have HFJ := Lib.hid (show firstI (edI D e.path X i).names xp = (j : Nat) from HJ1.out); have HBX := Lib.hid (own_blks HXR2.out gx (by simp [Value.ownBlock]))
          have SK := Lib.hid (show ∀ W', Off [] W2 W' → W'.cell? ⟨p, 0, none⟩ = some (.slice (some ⟨g1, 0, none⟩) nn c1) ∧ W'.cell? ⟨gx, i * 4, none⟩ = some (.string xp) ∧ W'.cell? ⟨g1, j * 2, none⟩ = some (.string xp) ∧ W'.cell? ⟨g1, j * 2 + 1, none⟩ = some (.int .i64 lk) from fun W' h =>
            ⟨(h.cell (p := ⟨p, 0, none⟩) hlp (by simp)).trans hs0, (h.cell (p := ⟨gx, i * 4, none⟩) hgx (by simp)).trans hx0, (h.cell (p := ⟨g1, j * 2, none⟩) hg1 (by simp)).trans hn0, (h.cell (p := ⟨g1, j * 2 + 1, none⟩) hg1 (by simp)).trans hn1⟩)
          have HWS2 := Lib.hid (show w.heap.size ≤ W2.heap.size from HS2.out.2.1.size); have hjn : (j : Int) < nn := by omega
          unfold maxLen at hm1; have HE1 := Lib.hid e1; clear hoE hS2 hcp hBp e1 hnn hlk hBg1
          have SG := Lib.hid (show ∀ (wA w7 : World) (o : Obj), Off [] W2 wA → (wA.alloc o).grownBy w7 (Value.slice pv i cv).ownBlock → w7.cell? ⟨p, 0, none⟩ = some (.slice (some ⟨g1, 0, none⟩) nn c1) ∧ w7.cell? ⟨gx, i * 4, none⟩ = some (.string xp) ∧ w7.cell? ⟨g1, j * 2, none⟩ = some (.string xp) ∧ w7.cell? ⟨g1, j * 2 + 1, none⟩ = some (.int .i64 lk) from fun wA w7 o hoB hg => by
            obtain ⟨ho, -⟩ := grow_keep HL2.out hoB hg; obtain ⟨f1, f2, -⟩ := built_far H.out HS2.out HL2.out; have fx : gx ∉ (Value.slice pv i cv).ownBlock.toList := fun hm => by
              obtain ⟨c1, k1⟩ := HBX.out; obtain ⟨c2, k2⟩ := own_blks HL2.out gx hm; exact k1.ne_ k2 (by decide) rfl
            have f3 := f2 g1 (mem_blocks.2 (.inl (by rw [HE1.out]; simp [Value.ownBlock]))); obtain ⟨s1, s2, s3, s4⟩ := SK.out W2 (Off.refl _ _); exact ⟨(ho.cell (p := ⟨p, 0, none⟩) hlp f1).trans s1, (ho.cell (p := ⟨gx, i * 4, none⟩) hgx fx).trans s2, (ho.cell (p := ⟨g1, j * 2, none⟩) hg1 f3).trans s3, (ho.cell (p := ⟨g1, j * 2 + 1, none⟩) hg1 f3).trans s4⟩)
          clear hs0 hx0 hn0 hn1
          go_wp2_with fail
          go_region_held_law (fun w' => w'.cell? ⟨p, 0, none⟩ = some (.slice (some ⟨g1, 0, none⟩) nn c1) ∧ w'.cell? ⟨gx, i * 4, none⟩ = some (.string xp) ∧ w'.cell? ⟨g1, j * 2, none⟩ = some (.string xp) ∧ w'.cell? ⟨g1, j * 2 + 1, none⟩ = some (.int .i64 lk)) (first | assumption | exact SK.out _ (Off.refl [] W2).drew | exact SK.out _ hoB | exact SK.out _ (hoB.alloc _)) ((first
            | (go_at_call 102; refine (HFW.out _ (Off.refl [] W2).drew).mono ?_; rintro e' wA ⟨rfl, hoA⟩; rw [HFJ.out]; have hoB := (Off.refl [] W2).drew.trans_nil hoA; have hSA := SK.out _ hoB)
            | (refine step_append_lies _ (by rfl) _ _ _ (by rfl) w.heap.size 127 i1 _ 2 24 Tryz.underlying64 hi1 hy0 hy1 hy2 rfl (by decide) _ i _ (by rfl) (own_offk (k := []) HL2.out (hoB.alloc _) (by simp)) ⟨wA.heap.size, 0, none⟩ 1 1 [_, _] (by rfl) (by rfl) (cell_two_at (Blk.new wA _ _)) (by simp [Value.oneCell']) (by omega) (by unfold maxLen; omega) (by omega) (by have := HWS2.out; have := hoB.size; simp; omega) (wA.heap.size + 1) (by simp) ?_; intro gg cap7 w7 hown7 hgrow7 hat7 hlt7; have hS7 := SG.out _ _ _ hoB hgrow7)))
          go_wp2_with fail
          all_goals refine ⟨⟨i + 1, by congr 1, by omega, Lib.hid ?_⟩, by simp only [intOf]; omega⟩
          all_goals exact ed_next H.out HS2.out HEI.out HL2.out HLD.out (by rw [HXN.out]; exact HXR2.out) HBE2.out (Nat.le_trans HWL.out HO2.out.size) hoB hgrow7 hown7
        have HWI := Lib.hid hwi; have HLD := Lib.hid (led_in (norm D).names D.inos.length HXI.out hwi); have HEI := Lib.hid (edI_in (D := D) HXI.out hwi); clear hwi
        go_wp2_with fail
        refine wp_region_ext (by kernel_rfl) (by kernel_rfl) ?_
        repeat (go_big_quiet_step (first
          | (go_at_call 112; exact Calls.ext_of (rwithin_v xp e.path _ HXS.out HPS.out true HWI.out))))
        refine wpQuiet_nil ?_
        rintro W2 ⟨x2, rfl⟩; have hoE := ext_off wr x2; clear hxx a0 a1 a2 a3 b1 hbl hgx; generalize ext wr x2 = W2 at *; have HO2 := Lib.hid hoE; have hS2 := HS.out.off hoE; have HS2 := Lib.hid hS2; have HL2 := Lib.hid (own_offk (k := []) HL.out hoE (by simp)); have HXR2 := Lib.hid (own_offk (k := []) HXR.out hoE (by simp)); have HBE2 := Lib.hid (HBE.out.off hoE (by simp))
        have a0 := own_cell2 HXR2.out (node_get7 HXI.out 0 (by omega)); have a1 := own_cell2 HXR2.out (node_get7 HXI.out 1 (by omega)); have a2 := own_cell2 HXR2.out (node_get7 HXI.out 2 (by omega)); have a3 := own_cell2 HXR2.out (node_get7 HXI.out 3 (by omega)); obtain ⟨M, hM⟩ : ∃ M, (edI D e.path X i).inos.length = M := ⟨_, rfl⟩
        have HM := Lib.hid hM; have hMb : M ≤ 60001000 := by
          rw [← hM, edI_len]; have h1 := HIO.out; have h2 := laid_le (X := X) (path := e.path) (i := i); rw [HXN.out] at h2; omega
        have HML := Lib.hid (show D.inos.length + (laidL (X.take i) e.path).length = M by rw [← hM, edI_len]); obtain ⟨pi, ci, hiv, -, -, -⟩ := own_at hS2.1.inos; dsimp only at hiv; rw [hM] at hiv; have HIV := Lib.hid hiv; obtain ⟨cl, hcl⟩ : ∃ cl, D.clock = cl := ⟨_, rfl⟩
        have hclb : (cl : Int) ≤ 100000000 := by rw [← hcl]; exact HCL.out
        have hwc : IntKind.i64.wrap ((cl : Int) + 1) = (cl : Int) + 1 := IntWalk.i64_in _ (by omega)
        rw [hcl] at HEI; have hcl2 : (edI D e.path X i).clock = cl := hcl
        have hB := hS2.1.blk; have hc := hB.cell; have hf := hB.frozen; have hlp := hB.lt; unfold refCells at hc; dsimp only at hc; rw [hiv, hcl2] at hc; have hown6 : (W2.drew.alloc (.cells #[.int .i64 xk, .int .i64 xm, .int .i64 ((cl : Int) + 1), .string xd, .bool false] 125)).ownsRow 0 125 5 (.slice pi M ci) M (rinoCells (edI D e.path X i).inos) := by
          have := own_offk (k := []) hS2.1.inos ((Off.refl [] W2).drew.alloc (.cells #[.int .i64 xk, .int .i64 xm, .int .i64 ((cl : Int) + 1), .string xd, .bool false] 125)) (by simp); dsimp only at this; rw [hiv, hM] at this; exact this
        have HW6 := Lib.hid hown6; have HPL := Lib.hid (show some p ≠ (Value.slice pi M ci).ownBlock from own_ne hown6 (hB.drew.alloc _) (by decide)); have HBP := Lib.hid (hB.drew.alloc (.cells #[.int .i64 xk, .int .i64 xm, .int .i64 ((cl : Int) + 1), .string xd, .bool false] 125)); have hgx : gx < W2.heap.size := by
          obtain ⟨cs, hB⟩ := own_blks HXR2.out gx (by simp [Value.ownBlock]); exact hB.lt
        have HWS2 := Lib.hid (show w.heap.size ≤ W2.heap.size from HS2.out.2.1.size); clear hoE hS2 hB hown6 hM hiv hcl hcl2
        go_wp2_with fail
        go_cut [] from 34 to 63 (fun wx => ∃ iv', RefS A w p G.blocks wx { G with iv := iv' } (edI D e.path X (i + 1)) ∧ KeepT [69, 125] W2 wx)
        case first =>
          have SK := Lib.hid (show ∀ W', Off [] W2 W' → W'.cell? ⟨gx, i * 4, none⟩ = some (.string xp) ∧ W'.cell? ⟨gx, i * 4 + 1, none⟩ = some (.int .i64 xk) ∧ W'.cell? ⟨gx, i * 4 + 2, none⟩ = some (.string xd) ∧ W'.cell? ⟨gx, i * 4 + 3, none⟩ = some (.int .i64 xm) from fun W' h =>
            ⟨(h.cell (p := ⟨gx, i * 4, none⟩) hgx (by simp)).trans a0, (h.cell (p := ⟨gx, i * 4 + 1, none⟩) hgx (by simp)).trans a1, (h.cell (p := ⟨gx, i * 4 + 2, none⟩) hgx (by simp)).trans a2, (h.cell (p := ⟨gx, i * 4 + 3, none⟩) hgx (by simp)).trans a3⟩)
          have SG := Lib.hid (show ∀ (w7 : World) (o : Obj), (W2.drew.alloc o).grownBy w7 (Value.slice pi M ci).ownBlock → (∀ (j : Nat), w7.cell? ⟨gx, j, none⟩ = W2.cell? ⟨gx, j, none⟩) ∧ gx ≠ p from fun w7 o hg => by
            obtain ⟨csx, hBx⟩ := own_blks HXR2.out gx (by simp [Value.ownBlock]); have h1 := ((hBx.drew).alloc o).grown hg (by rw [← HIV.out]; exact own_ne HS2.out.1.inos hBx (by decide)); exact ⟨fun j => (h1.cell j).trans (hBx.cell j).symm, hBx.ne_ HS2.out.1.blk (by decide)⟩)
          have SS := Lib.hid (show ∀ (w7 : World) (v : Value), gx ≠ p → (w7.cell? ⟨gx, i * 4, none⟩ = some (.string xp) ∧ w7.cell? ⟨gx, i * 4 + 1, none⟩ = some (.int .i64 xk) ∧ w7.cell? ⟨gx, i * 4 + 2, none⟩ = some (.string xd) ∧ w7.cell? ⟨gx, i * 4 + 3, none⟩ = some (.int .i64 xm)) → gx < w7.heap.size → (w7.setCell ⟨p, 3, none⟩ v).cell? ⟨gx, i * 4, none⟩ = some (.string xp) ∧ (w7.setCell ⟨p, 3, none⟩ v).cell? ⟨gx, i * 4 + 1, none⟩ = some (.int .i64 xk) ∧ (w7.setCell ⟨p, 3, none⟩ v).cell? ⟨gx, i * 4 + 2, none⟩ = some (.string xd) ∧ (w7.setCell ⟨p, 3, none⟩ v).cell? ⟨gx, i * 4 + 3, none⟩ = some (.int .i64 xm) from fun w7 v hne hs hl => by
            have ho := (Off.refl [p] w7).setCell (p := ⟨p, 3, none⟩) (.inr (by simp)) v; obtain ⟨s0, s1, s2, s3⟩ := hs
            exact ⟨(ho.cell (p := ⟨gx, i * 4, none⟩) hl (by simpa using hne)).trans s0, (ho.cell (p := ⟨gx, i * 4 + 1, none⟩) hl (by simpa using hne)).trans s1, (ho.cell (p := ⟨gx, i * 4 + 2, none⟩) hl (by simpa using hne)).trans s2, (ho.cell (p := ⟨gx, i * 4 + 3, none⟩) hl (by simpa using hne)).trans s3⟩)
          have e6 : W2.cell? ⟨p, 6, none⟩ = some (.int .i64 cl) := hc 6
          have e3 : W2.cell? ⟨p, 3, none⟩ = some (.slice pi M ci) := hc 3
          have SP := Lib.hid (show ∀ W', Off [] W2 W' → W'.cell? ⟨p, 6, none⟩ = some (.int .i64 cl) ∧ W'.cell? ⟨p, 3, none⟩ = some (.slice pi M ci) from fun W' h => ⟨(h.cell (p := ⟨p, 6, none⟩) hlp (by simp)).trans e6, (h.cell (p := ⟨p, 3, none⟩) hlp (by simp)).trans e3⟩)
          refine wp_region_but_last 30 [0, 1, 2, 3, 4, 5, 6, 7, 8, 9, 10, 11, 12, 13, 14, 15, 16, 17, 18, 19, 20, 21, 22, 23, 24, 25] [26, 27, 28, 29, 30] (fun w' => (w'.cell? ⟨gx, i * 4, none⟩ = some (.string xp) ∧ w'.cell? ⟨gx, i * 4 + 1, none⟩ = some (.int .i64 xk) ∧ w'.cell? ⟨gx, i * 4 + 2, none⟩ = some (.string xd) ∧ w'.cell? ⟨gx, i * 4 + 3, none⟩ = some (.int .i64 xm)) ∧ w'.cell? ⟨p, 6, none⟩ = some (.int .i64 cl) ∧ w'.cell? ⟨p, 3, none⟩ = some (.slice pi M ci)) (by kernel_rfl) (by kernel_rfl) (by intro d v c a w h; cases d <;> exact h) ⟨SK.out _ (Off.refl [] W2).drew, SP.out _ (Off.refl [] W2).drew⟩ ?_
          clear a0 a1 a2 a3 e6 e3 hc
          iterate 26 (refine takesZ_step (v := ?_) rfl (by rfl) ?_ ?_; rotate_left 1; (· (rintro w ⟨⟨s0, s1, s2, s3⟩, s6, s5⟩; go_simp <;> with_reducible rfl)); try simp only [Act.put, List.setIfInBounds_toArray])
          refine takesZ_nil ?_
          refine runZ_step rfl (fun K1 hK1 => ?_)
          go_simp
          refine hK1.out _ _ (.inr ⟨SK.out _ ((Off.refl [] W2).drew.alloc _), SP.out _ ((Off.refl [] W2).drew.alloc _)⟩) ?_
          try simp only [Act.put, List.setIfInBounds_toArray, List.set_cons_zero, List.set_cons_succ]
          refine runZ_step rfl (fun K2 hK2 => ?_)
          refine step_append_lies _ (by rfl) _ _ _ (by rfl) 0 125 i0 _ 5 48 Tryz.underlying66 hi0 hz0 hz1 hz2 rfl (by decide) _ M _ (by rfl) HW6.out ⟨W2.heap.size, 0, none⟩ 1 1 [_, _, _, _, _] (by rfl) (by rfl) (five_at (Blk.new W2.drew _ _)) (by simp [Value.oneCell']) (by omega) (by unfold maxLen; omega) (by omega) (by simp) (W2.heap.size + 1) (by simp) ?_
          intro gg cap w7 hown7 hgrow7 hat7 hlt7
          have hB7 := HBP.out.grown hgrow7 HPL.out; have hc7 := hB7.cell; have hf7 := hB7.frozen; unfold refCells at hc7; have hS8 := (SG.out _ _ hgrow7).2
          have hS7 : w7.cell? ⟨gx, i * 4, none⟩ = some (.string xp) ∧ w7.cell? ⟨gx, i * 4 + 1, none⟩ = some (.int .i64 xk) ∧ w7.cell? ⟨gx, i * 4 + 2, none⟩ = some (.string xd) ∧ w7.cell? ⟨gx, i * 4 + 3, none⟩ = some (.int .i64 xm) := ⟨((SG.out _ _ hgrow7).1 _).trans (SK.out W2 (Off.refl _ _)).1, ((SG.out _ _ hgrow7).1 _).trans (SK.out W2 (Off.refl _ _)).2.1, ((SG.out _ _ hgrow7).1 _).trans (SK.out W2 (Off.refl _ _)).2.2.1, ((SG.out _ _ hgrow7).1 _).trans (SK.out W2 (Off.refl _ _)).2.2.2⟩
          have hS9 : gx < w7.heap.size := cell_lt7 hS7.1
          have hS10 := And.intro hS7 (And.intro ((hB7.cell 6).trans ((HBP.out.cell 6).symm.trans (SP.out _ ((Off.refl [] W2).drew.alloc _)).1)) ((hB7.cell 3).trans ((HBP.out.cell 3).symm.trans (SP.out _ ((Off.refl [] W2).drew.alloc _)).2))); refine hK2.out _ _ (.inr hS10) ?_
          try simp only [Act.put, List.setIfInBounds_toArray]
          refine runZ_step rfl (fun K3 hK3 => ?_)
          go_simp
          refine hK3.out _ _ (.inr hS10) ?_
          try simp only [Act.put, List.setIfInBounds_toArray, List.set_cons_zero, List.set_cons_succ]
          refine runZ_step rfl (fun K4 hK4 => ?_)
          go_simp
          refine hK4.out _ _ (.inr hS10) ?_
          try simp only [Act.put, List.setIfInBounds_toArray, List.set_cons_zero, List.set_cons_succ]
          refine runZ_step rfl (fun K5 hK5 => ?_)
          go_simp
          refine hK5.out _ _ (.inl rfl) (runZ_nil ?_)
          clear hS10 hK1 K1 hK2 K2 hK3 K3 hK4 K4 hK5 K5
          all_goals go_wp2_with fail
          all_goals go_meet
          all_goals exact ⟨_, by
            rw [HEI.out]
            exact push_ino (G := { G with iv := iv }) (E := edI D e.path X i) (n := ⟨⟨xp, xk, xd, xm⟩, (cl : Int) + 1, false⟩) HS2.out HM.out hown7 (show World.grownBy _ w7 iv.ownBlock by rw [HIV.out]; exact hgrow7) (show iv.ownBlock = some gg ∨ gg = W2.heap.size + 1 by rw [HIV.out]; exact hat7), push_keep HS2.out.1 (show World.grownBy _ w7 iv.ownBlock by rw [HIV.out]; exact hgrow7)⟩
        case rest =>
          obtain ⟨iv', hS3, hK3⟩ := hcut; have HS3 := Lib.hid hS3; have HK3 := Lib.hid hK3; have HL3 := Lib.hid (hK3.row HL2.out (by decide)); have HXR3 := Lib.hid (hK3.row HXR2.out (by decide)); have HBE3 := Lib.hid (hK3.blk HBE2.out (by decide)); have HM3 := Lib.hid (show (edI D e.path X (i + 1)).inos.length = M + 1 by rw [HEI.out]; simp [HM.out])
          obtain ⟨pi3, ci3, hiv3, -, -, -⟩ := own_at hS3.1.inos; dsimp only at hiv3; rw [HM3.out] at hiv3; have hcp := hS3.1.blk.cell; have hlp3 := hS3.1.blk.lt; unfold refCells at hcp; dsimp only at hcp; rw [hiv3] at hcp; have hs0 : wc.cell? ⟨p, 3, none⟩ = some (.slice pi3 (M + 1) ci3) := hcp 3
          have hx0 : wc.cell? ⟨gx, i * 4, none⟩ = some (.string xp) := own_cell2 HXR3.out (node_get7 HXI.out 0 (by omega))
          have hgx3 : gx < wc.heap.size := Nat.lt_of_lt_of_le hgx hK3.size
          have HBX := Lib.hid (own_blks HXR3.out gx (by simp [Value.ownBlock])); have HWS3 := Lib.hid (show w.heap.size ≤ wc.heap.size from hS3.2.1.size); have hown9 := own_offk (k := []) HL3.out ((Off.refl [] wc).drew.alloc (.cells #[.string xp, .int .i64 ((M + 1 : Nat) : Int)] 127)) (by simp); have HW9 := Lib.hid hown9
          have SK := Lib.hid (show ∀ W', Off [] wc W' → W'.cell? ⟨p, 3, none⟩ = some (.slice pi3 (M + 1) ci3) ∧ W'.cell? ⟨gx, i * 4, none⟩ = some (.string xp) from fun W' h =>
            ⟨(h.cell (p := ⟨p, 3, none⟩) hlp3 (by simp)).trans hs0, (h.cell (p := ⟨gx, i * 4, none⟩) hgx3 (by simp)).trans hx0⟩)
          have SG := Lib.hid (show ∀ (wA w7 : World) (o : Obj), Off [] wc wA → (wA.alloc o).grownBy w7 (Value.slice pv i cv).ownBlock → w7.cell? ⟨p, 3, none⟩ = some (.slice pi3 (M + 1) ci3) ∧ w7.cell? ⟨gx, i * 4, none⟩ = some (.string xp) from fun wA w7 o hoB hg => by
            obtain ⟨ho, -⟩ := grow_keep HL3.out hoB hg; obtain ⟨f1, f2, -⟩ := built_far H.out HS3.out HL3.out; have fx : gx ∉ (Value.slice pv i cv).ownBlock.toList := fun hm => by
              obtain ⟨c1, k1⟩ := HBX.out; obtain ⟨c2, k2⟩ := own_blks HL3.out gx hm; exact k1.ne_ k2 (by decide) rfl
            exact ⟨(ho.cell (p := ⟨p, 3, none⟩) hlp3 f1).trans hs0, (ho.cell (p := ⟨gx, i * 4, none⟩) hgx3 fx).trans hx0⟩)
          clear a0 a1 a2 a3 hc hf hlp hgx hS3 hK3 hiv3 hcp hs0 hx0 hown9
          go_wp2_with fail
          go_region_held_law (fun w' => w'.cell? ⟨p, 3, none⟩ = some (.slice pi3 (M + 1) ci3) ∧ w'.cell? ⟨gx, i * 4, none⟩ = some (.string xp)) (first | assumption | exact SK.out _ (Off.refl [] wc).drew | exact SK.out _ ((Off.refl [] wc).drew.alloc _)) ((refine step_append_lies _ (by rfl) _ _ _ (by rfl) w.heap.size 127 i1 _ 2 24 Tryz.underlying64 hi1 hy0 hy1 hy2 rfl (by decide) _ i _ (by rfl) HW9.out ⟨wc.heap.size, 0, none⟩ 1 1 [_, _] (by rfl) (by rfl) (cell_two_at (Blk.new wc.drew _ _)) (by simp [Value.oneCell']) (by omega) (by unfold maxLen; omega) (by omega) (by have := HWS3.out; simp; omega) (wc.heap.size + 1) (by simp) ?_; intro gg cap7 w7 hown7 hgrow7 hat7 hlt7; have hS7 := SG.out _ _ _ (Off.refl [] wc).drew hgrow7))
          go_wp2_with fail
          all_goals refine ⟨⟨i + 1, by congr 1, by omega, Lib.hid ?_⟩, by simp only [intOf]; omega⟩
          all_goals exact ed_next H.out HS3.out rfl HL3.out HLD.out (by rw [HXN.out]; exact HXR3.out) HBE3.out (Nat.le_trans (Nat.le_trans HWL.out HO2.out.size) HK3.out.size) (Off.refl [] wc).drew hgrow7 (by rw [HML.out]; exact hown7)
      obtain rfl : i = xn := by omega
      have HS := Lib.hid hS; have HL := Lib.hid hl; have HTK := Lib.hid (show X.take i = X from List.take_of_length_le (by rw [HXN.out]; exact Nat.le_refl _)); rw [HTK.out] at hl; have HCH := Lib.hid (r7changed_any p _ (edI D e.path X i) (.slice pv i cv) (ledL (norm D).names e.path X D.inos.length) wr hS.1 (by
        unfold EntAt; rw [ledL_len, HXN.out]; exact own_base hl (Nat.zero_le _)) (by rw [ledL_len, HXN.out]; omega) (fun y hy => by
        have h1 : y.1 ∈ (ledL (norm D).names e.path X D.inos.length).map (·.1) := List.mem_map_of_mem hy
        rw [ledL_fst] at h1; obtain ⟨z, hz, h2⟩ := List.mem_map.1 h1; have := HXP.out z hz; rw [h2] at this; omega) (show (norm D).later.length ≤ 1000000000 from Nat.le_trans HF.out.ll (by decide)))
      clear hS hl hXr hbe HI
      go_wp2_with fail
      refine HCH.out.mono ?_
      rintro e' w' ⟨rfl, hT⟩
      go_wp2_with fail
      refine bodyPost_end (results_none rfl _ _ _) rfl ⟨rfl, ?_⟩
      have h1 := RefTo.next HS.out.2.1 HS.out.2.2 hT; rw [HE.out]; unfold edI at h1; rw [HTK.out] at h1; exact h1
end Go.Proofs.YtgcfkljooabjjaaGreatDoor
