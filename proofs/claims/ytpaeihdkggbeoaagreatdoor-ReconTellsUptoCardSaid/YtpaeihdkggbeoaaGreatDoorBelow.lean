/- recon's views of what stands below: the walk of below. Conditions: what each contract states. -/
import Derived.Test.YtpaeihdkggbeoaaGreatDoorSortS
import Derived.Deep.RegionHeld3
import Derived.Deep.AppendLies
namespace Go.Proofs.YtpaeihdkggbeoaaGreatDoor
open Go.RowKit Go.Op

/-! ### views -/
structure Vw where
  path : ByteArray
  o : List Node
  a : List Node
  b : List Node
def belowP (p x : ByteArray) : ByteArray := if str p = [] then x else p ++ (⟨#[47]⟩ : ByteArray) ++ x
def namesV (w : Vw) : List ByteArray := compS (sortS (inV w.o ++ (inV w.a ++ inV w.b)))
def subV (w : Vw) (x : ByteArray) : Vw := ⟨belowP w.path x, partV w.o x, partV w.a x, partV w.b x⟩
def belowV (w : Vw) : List Vw := (namesV w).map (subV w)
structure Fine (x : Vw) : Prop where
  fo : Fits x.o
  fa : Fits x.a
  fb : Fits x.b
  lo : x.o.length ≤ 1001
  la : x.a.length ≤ 1001
  lb : x.b.length ≤ 1001
  path : x.path.size + 65 * x.a.length ≤ 200000
theorem namesV_mem {w : Vw} {x : ByteArray} (h : x ∈ namesV w) : okName (str x) = true := by
  have h1 := sortS_mem (compS_mem h)
  rcases List.mem_append.1 h1 with h2 | h2
  · exact inV_mem h2
  · rcases List.mem_append.1 h2 with h3 | h3
    · exact inV_mem h3
    · exact inV_mem h3
theorem namesV_size {w : Vw} {x : ByteArray} (h : x ∈ namesV w) : x.size ≤ 64 := by rw [← str_size]; exact okName_size (namesV_mem h)
theorem belowP_size (p x : ByteArray) : (belowP p x).size ≤ p.size + 1 + x.size := by
  unfold belowP
  split
  · omega
  · rw [ByteArray.size_append, ByteArray.size_append]; show p.size + 1 + x.size ≤ _; omega
theorem namesR_len (t : List Node) (d : Str) : (namesR t d).length ≤ t.length := by
  unfold namesR
  split
  · unfold namesOf; rw [List.length_map]; exact List.length_filter_le _ _
  · simp
theorem inV_len (v : List Node) : (inV v).length ≤ v.length := by
  unfold inV
  split
  · exact Nat.le_trans (namesR_len _ _) (by rw [List.length_tail]; omega)
  · simp
theorem namesV_len {w : Vw} (h : Fine w) : (namesV w).length ≤ 3003 ∧ (inV w.o ++ (inV w.a ++ inV w.b)).length ≤ 3003 := by
  have h1 := inV_len w.o
  have h2 := inV_len w.a
  have h3 := inV_len w.b
  have h4 := h.lo
  have h5 := h.la
  have h6 := h.lb
  have h7 : (inV w.o ++ (inV w.a ++ inV w.b)).length ≤ 3003 := by rw [List.length_append, List.length_append]; omega
  refine ⟨?_, h7⟩
  unfold namesV
  have := compS_len (sortS (inV w.o ++ (inV w.a ++ inV w.b)))
  rw [sortS_len] at this
  omega

/-- a value in memory: its nodes lie in a block of nodes -/
def SlN (B : Nat) (W : World) (v : Value) (t : List Node) : Prop := ∃ p c, v = .slice p t.length c ∧ Row W p t ∧ t.length ≤ c ∧ c ≤ maxLen ∧ (p = none → t = [] ∧ c = 0) ∧ BlkN W p ∧ ∀ a, p = some a → B ≤ a.block
theorem SlN.off {B : Nat} {w w' : World} {v : Value} {t : List Node} (h : SlN B w v t) (ho : Off [] w w') : SlN B w' v t := by
  obtain ⟨p, c, h1, h2, h3, h4, h5, h6, h7⟩ := h
  exact ⟨p, c, h1, h2.off ho, h3, h4, h5, h6.off ho, h7⟩
theorem SlN.own {W : World} {base : Nat} {v : Value} {t : List Node} (h : W.ownsRow base 40 4 v t.length (cellsOf t)) : SlN base W v t := by
  have h0 := h
  obtain ⟨p, c, rfl, h2, h3, h4, h5⟩ := own_all h
  exact ⟨p, c, rfl, h2, h3, h4, h5, own_blkN h0, fun a ha => by subst ha; exact (h0.lt a.block rfl).1⟩
theorem SlN.weak {B B' : Nat} {w : World} {v : Value} {t : List Node} (h : SlN B w v t) (hb : B' ≤ B) : SlN B' w v t := by
  obtain ⟨p, c, h1, h2, h3, h4, h5, h6, h7⟩ := h
  exact ⟨p, c, h1, h2, h3, h4, h5, h6, fun a ha => Nat.le_trans hb (h7 a ha)⟩
theorem SlN.grown {B : Nat} {w w6 : World} {v lv : Value} {t : List Node} {base n e sz : Nat} {xs : List Value} (h : SlN B w v t) (he : e ≠ 40) (hown : w.ownsRow base e sz lv n xs) (hg : w.grownBy w6 lv.ownBlock) : SlN B w6 v t := by
  obtain ⟨p, c, h1, h2, h3, h4, h5, h6, h7⟩ := h
  have key : ∀ a, p = some a → w6.heap[a.block]? = w.heap[a.block]? := fun a ha => by
    obtain ⟨cur, hc⟩ := h6 a ha
    have hlt := (Array.getElem?_eq_some_iff.1 hc).1
    have hne : some a.block ≠ lv.ownBlock := by
      rcases hown.2 with ⟨rfl, _⟩ | ⟨g, cap, cu, rfl, _, hh, _⟩
      · intro h; cases h
      · intro h
        have h : some a.block = some g := h
        cases h
        rw [hc] at hh
        injection hh with hh
        injection hh with _ ht
        exact he ht.symm
    exact hg.block _ hlt hne
  refine ⟨p, c, h1, fun hne => ?_, h3, h4, h5, fun a ha => ?_, h7⟩
  · obtain ⟨a, ha, hb, hn⟩ := h2 hne
    have hk := key a ha
    have hc : ∀ q : Addr, q.block = a.block → w6.cell? q = w.cell? q := fun q hq => World.cell?_of_block (w := w) (by rw [hq]; exact hk)
    obtain ⟨cur, hcu⟩ := h6 a ha
    refine ⟨a, ha, (Array.getElem?_eq_some_iff.1 (hk.trans hcu)).1, fun i n hi => ?_⟩
    have h := hn i n hi
    exact ⟨(hc _ (add_block _ _)).trans h.path, (hc ⟨_, _, none⟩ (add_block a (i * 4))).trans h.kind, (hc ⟨_, _, none⟩ (add_block a (i * 4))).trans h.data, (hc ⟨_, _, none⟩ (add_block a (i * 4))).trans h.mode⟩
  · obtain ⟨cur, hcu⟩ := h6 a ha
    exact ⟨cur, (key a ha).trans hcu⟩
/-- a view in memory -/
structure ViewAt (B : Nat) (W : World) (p : Addr) (y : Vw) (vo va vb : Value) : Prop where
  path : W.cell? p = some (.string y.path)
  o : W.cell? ⟨p.block, p.off + 1, none⟩ = some vo
  a : W.cell? ⟨p.block, p.off + 2, none⟩ = some va
  b : W.cell? ⟨p.block, p.off + 3, none⟩ = some vb
  so : SlN B W vo y.o
  sa : SlN B W va y.a
  sb : SlN B W vb y.b
def Views (B : Nat) (W : World) (p : Option Addr) (L : List Vw) : Prop :=
  ∀ (i : Nat) (y : Vw), L[i]? = some y → ∃ q vo va vb, p = some q ∧ (q.block < W.heap.size ∧ B ≤ q.block) ∧ ViewAt B W (q.add (i * 4)) y vo va vb
theorem Views.off {B : Nat} {w w' : World} {p : Option Addr} {L : List Vw} (h : Views B w p L) (ho : Off [] w w') : Views B w' p L := fun i y hi => by
  obtain ⟨q, vo, va, vb, hp, hq, hv⟩ := h i y hi
  have hb : (q.add (i * 4)).block < w.heap.size := by rw [add_block]; exact hq.1
  exact ⟨q, vo, va, vb, hp, ⟨Nat.lt_of_lt_of_le hq.1 ho.size, hq.2⟩, (ho.cell hb (by simp)).trans hv.path, (ho.cell (p := ⟨_, _, none⟩) hb (by simp)).trans hv.o, (ho.cell (p := ⟨_, _, none⟩) hb (by simp)).trans hv.a, (ho.cell (p := ⟨_, _, none⟩) hb (by simp)).trans hv.b, hv.so.off ho, hv.sa.off ho, hv.sb.off ho⟩
def VRel (B : Nat) (W : World) (vals : List Value) (L : List Vw) : Prop :=
  vals.length = L.length * 4 ∧ ∀ (i : Nat) (y : Vw), L[i]? = some y → ∃ vo va vb, vals[i * 4]? = some (.string y.path) ∧ vals[i * 4 + 1]? = some vo ∧ vals[i * 4 + 2]? = some va ∧ vals[i * 4 + 3]? = some vb ∧ SlN B W vo y.o ∧ SlN B W va y.a ∧ SlN B W vb y.b
theorem VRel.off {B : Nat} {w w' : World} {vals : List Value} {L : List Vw} (h : VRel B w vals L) (ho : Off [] w w') : VRel B w' vals L := ⟨h.1, fun i y hi => by
  obtain ⟨vo, va, vb, h1, h2, h3, h4, h5, h6, h7⟩ := h.2 i y hi
  exact ⟨vo, va, vb, h1, h2, h3, h4, h5.off ho, h6.off ho, h7.off ho⟩⟩
theorem VRel.grown {B : Nat} {w w6 : World} {lv : Value} {vals : List Value} {L : List Vw} {base n e sz : Nat} {xs : List Value} (h : VRel B w vals L) (he : e ≠ 40) (hown : w.ownsRow base e sz lv n xs) (hg : w.grownBy w6 lv.ownBlock) : VRel B w6 vals L := ⟨h.1, fun i y hi => by
  obtain ⟨vo, va, vb, h1, h2, h3, h4, h5, h6, h7⟩ := h.2 i y hi
  exact ⟨vo, va, vb, h1, h2, h3, h4, h5.grown he hown hg, h6.grown he hown hg, h7.grown he hown hg⟩⟩
theorem VRel.nil (B : Nat) (w : World) : VRel B w [] [] := ⟨rfl, fun i y hi => by simp at hi⟩
theorem VRel.snoc {B : Nat} {w : World} {vals : List Value} {L : List Vw} {y : Vw} {vo va vb : Value} (h : VRel B w vals L) (so : SlN B w vo y.o) (sa : SlN B w va y.a) (sb : SlN B w vb y.b) : VRel B w (vals ++ [.string y.path, vo, va, vb]) (L ++ [y]) := by
  have hl := h.1
  refine ⟨by simp; omega, fun i z hi => ?_⟩
  rcases Nat.lt_or_ge i L.length with h1 | h1
  · rw [List.getElem?_append_left h1] at hi
    obtain ⟨vo', va', vb', h1', h2, h3, h4, h5⟩ := h.2 i z hi
    exact ⟨vo', va', vb', by rw [List.getElem?_append_left (by omega)]; exact h1', by rw [List.getElem?_append_left (by omega)]; exact h2, by rw [List.getElem?_append_left (by omega)]; exact h3, by rw [List.getElem?_append_left (by omega)]; exact h4, h5⟩
  · rw [List.getElem?_append_right h1] at hi
    have h2 := (List.getElem?_eq_some_iff.1 hi).1
    simp at h2
    have : i = L.length := by omega
    subst this
    simp at hi
    subst hi
    refine ⟨vo, va, vb, ?_, ?_, ?_, ?_, so, sa, sb⟩
    · rw [List.getElem?_append_right (by omega), hl]; simp
    · rw [List.getElem?_append_right (by omega), hl, show L.length * 4 + 1 - L.length * 4 = 1 by omega]; rfl
    · rw [List.getElem?_append_right (by omega), hl, show L.length * 4 + 2 - L.length * 4 = 2 by omega]; rfl
    · rw [List.getElem?_append_right (by omega), hl, show L.length * 4 + 3 - L.length * 4 = 3 by omega]; rfl
theorem views_own {B : Nat} {W : World} {base : Nat} {v : Value} {vals : List Value} {L : List Vw} {n : Nat} (hn : L.length = n) (h : W.ownsRow base 50 4 v n vals) (hr : VRel B W vals L) (hB : B ≤ base) : ∃ p c, v = .slice p n c ∧ Views B W p L := by
  rcases h.2 with ⟨rfl, h1⟩ | ⟨g, cap, cur, rfl, hb, hh, hc, hm, hs, ht⟩
  · refine ⟨none, 0, by rw [h1], fun i y hi => ?_⟩
    have := (List.getElem?_eq_some_iff.1 hi).1
    omega
  · refine ⟨some ⟨g, 0, none⟩, cap, rfl, fun i y hi => ?_⟩
    obtain ⟨vo, va, vb, h1, h2, h3, h4, h5, h6, h7⟩ := hr.2 i y hi
    have key : ∀ (j : Nat) (u : Value), vals[j]? = some u → W.cell? ⟨g, j, none⟩ = some u := fun j u hu => by
      have := h.cells (g := g) rfl j u hu
      rwa [addr_add] at this
    refine ⟨⟨g, 0, none⟩, vo, va, vb, rfl, ⟨(Array.getElem?_eq_some_iff.1 hh).1, Nat.le_trans hB hb⟩, ?_⟩
    rw [addr_add]
    exact ⟨key _ _ h1, key _ _ h2, key _ _ h3, key _ _ h4, h5, h6, h7⟩
theorem infoView : (Tryz.prog.info? 50).map (fun i => (i.zero, i.size, i.bytes)) = some (some (.agg #[.string ⟨#[]⟩, .slice none 0 0, .slice none 0 0, .slice none 0 0]), 4, 88) := by kernel_rfl
theorem cells_four {w : World} {g : Nat} {t : TypeId} {a b c d : Value} (h : Blk w g t #[a, b, c, d]) : ∀ j u, [a, b, c, d][j]? = some u → w.cell? ((⟨g, 0, none⟩ : Addr).add j) = some u := by
  intro j u hj
  match j, hj with
  | 0, hj => rw [addr_add, h.cell]; simpa using hj
  | 1, hj => rw [addr_add, h.cell]; simpa using hj
  | 2, hj => rw [addr_add, h.cell]; simpa using hj
  | 3, hj => rw [addr_add, h.cell]; simpa using hj
  | j + 4, hj => simp at hj
/-- a value that an argument holds -/
structure Tri (w : World) (p : Option Addr) (n c : Nat) (v : List Node) : Prop where
  row : Row w p v
  len : v.length = n
  le : n ≤ c
  mx : c ≤ maxLen
  fits : Fits v
theorem recin_tri {w W : World} {p : Option Addr} {n c : Nat} {v : List Node} (h : Tri w p n c v) (hT : Tabs w) (ho : Off [] w W) : Calls Tryz.prog 58 #[.slice p n c] W (MadeS (inV v) W) := recin_any p v n c W (h.row.off ho) h.len h.le h.mx h.fits (hT.off ho)
theorem recpart_tri {w W : World} {p : Option Addr} {n c : Nat} {v : List Node} (h : Tri w p n c v) (hT : Tabs w) (s : ByteArray) (ho : Off [] w W) : Calls Tryz.prog 61 #[.slice p n c, .string s] W (OwnT (partV v s) W) := recpart_any p v n c s W (h.row.off ho) h.len h.le h.mx h.fits (hT.off ho)
def BelowP (L : List Vw) (w : World) (e : Ending) (w' : World) : Prop :=
  ∃ p c, e = .returned (.slice p L.length c) ∧ Views w.heap.size w' p L ∧ Off [] w w'
set_option maxRecDepth 100000 in
set_option maxHeartbeats 8000000 in
theorem below_any {B : Nat} (x : Vw) (vo va vb : Value) (w : World) (so : SlN B w vo x.o) (sa : SlN B w va x.a) (sb : SlN B w vb x.b) (hF : Fine x) (hT : Tabs w) :
    Calls Tryz.prog 36 #[.agg #[.string x.path, vo, va, vb]] w (BelowP (belowV x) w) := by
  obtain ⟨i0, hi0, hz0, hz1, hz2⟩ := info_parts infoView
  have HSO := Lib.hid (fun (W : World) (ho : Off [] w W) => so.off ho)
  have HSA := Lib.hid (fun (W : World) (ho : Off [] w W) => sa.off ho)
  have HSB := Lib.hid (fun (W : World) (ho : Off [] w W) => sb.off ho)
  obtain ⟨po, co, rfl, ro, lo, mo, no_, -, -⟩ := so
  obtain ⟨pa, ca, rfl, ra, la, ma, na, -, -⟩ := sa
  obtain ⟨pb, cb, rfl, rb, lb, mb, nb, -, -⟩ := sb
  have HMO := Lib.hid (show Tri w po x.o.length co x.o from ⟨ro, rfl, lo, mo, hF.fo⟩)
  have HMA := Lib.hid (show Tri w pa x.a.length ca x.a from ⟨ra, rfl, la, ma, hF.fa⟩)
  have HMB := Lib.hid (show Tri w pb x.b.length cb x.b from ⟨rb, rfl, lb, mb, hF.fb⟩)
  have hpz := hF.path
  have hnl := namesV_len hF
  obtain ⟨K, hK⟩ : ∃ K, (namesV x).length = K := ⟨_, rfl⟩
  have hKl : K ≤ 3003 := by rw [← hK]; exact hnl.1
  have HK := Lib.hid hK
  have HNL := Lib.hid hnl.2
  have HF := Lib.hid hF
  generalize x.o.length = lno at *
  generalize x.a.length = lna at *
  generalize x.b.length = lnb at *
  obtain ⟨px, hpx⟩ : ∃ px, x.path = px := ⟨_, rfl⟩
  rw [hpx] at hpz ⊢
  have HPX := Lib.hid hpx
  clear hK hnl hF ro ra rb lo la lb mo ma mb no_ na nb hpx
  go_enter Tryz.func36, Tryz.ntmps36
  go_wp2_with fail
  refine code_gen (fun W => Off [] w W ∧ Blk W w.heap.size 50 #[.string px, .slice po lno co, .slice pa lna ca, .slice pb lnb cb]) ⟨(Off.refl _ _).alloc _, Blk.new _ _ _⟩ ?_
  rintro W0 ⟨hof0, hB0⟩
  have hoff := hof0.drew
  have hB := hB0.drew
  have hch := Off.refl [] W0.drew
  go_region_held3 (fun w' => w.heap.size < w'.heap.size ∧ ∀ i, w'.cell? ⟨w.heap.size, i, none⟩ = (#[.string px, .slice po lno co, .slice pa lna ca, .slice pb lnb cb] : Array Value)[i]?) (first | assumption | exact ⟨hB.lt, hB.cell⟩ | exact ⟨(hB.alloc _).lt, (hB.alloc _).cell⟩) (first
    | (go_at_call 58; refine (recin_tri (by exact HMO.out) hT (hoff.trans_nil hch)).mono ?_; rintro e wA ⟨xo, rfl, hxo, hoA⟩; obtain ⟨q1, c1, rfl, hs1, hn1⟩ := SlS.own hxo; have HX1 : Hid (SlS wA (.slice q1 (inV x.o).length c1) (inV x.o)) := Lib.hid ⟨q1, c1, rfl, hs1, hn1⟩; clear hxo hs1 hn1; have hch := hch.trans_nil hoA; have hB := hB.off hoA (by simp))
    | (go_at_call 58; refine (recin_tri (by exact HMA.out) hT (hoff.trans_nil hch)).mono ?_; rintro e wB ⟨xa, rfl, hxa, hoB⟩; obtain ⟨q2, c2, rfl, hs2, hn2⟩ := SlS.own hxa; have HX2 : Hid (SlS wB (.slice q2 (inV x.a).length c2) (inV x.a)) := Lib.hid ⟨q2, c2, rfl, hs2, hn2⟩; clear hxa hs2 hn2; have hch := hch.trans_nil hoB; have hB := hB.off hoB (by simp))
    | (go_at_call 58; refine (recin_tri (by exact HMB.out) hT (hoff.trans_nil hch)).mono ?_; rintro e wC ⟨xb, rfl, hxb, hoC⟩; obtain ⟨q3, c3, rfl, hs3, hn3⟩ := SlS.own hxb; have HX3 : Hid (SlS wC (.slice q3 (inV x.b).length c3) (inV x.b)) := Lib.hid ⟨q3, c3, rfl, hs3, hn3⟩; clear hxb hs3 hn3; have hch := hch.trans_nil hoC; have hB := hB.off hoC (by simp))
    | (go_at_call 57; refine (concat3S (HX1.out.off (hoB.trans_nil hoC)) (HX2.out.off hoC) HX3.out (by have := HNL.out; omega)).mono ?_; rintro e wD ⟨nv, rfl, hnv, hoD⟩; have hszC := hch.size; have hch := hch.trans_nil hoD; have hB := hB.off hoD (by simp)))
  have HCH := Lib.hid hch
  have HBD := Lib.hid hB
  have HBN := Lib.hid hB0.drew
  generalize hNL : inV x.o ++ (inV x.a ++ inV x.b) = NL at *
  have HNQ := Lib.hid (show namesV x = compS (sortS NL) by unfold namesV; rw [hNL])
  have HSRT := Lib.hid (sort_own (w0 := W0.drew) hnv hszC hch (by have := HNL.out; omega))
  obtain ⟨pn, cn, rfl, -⟩ := own_strs hnv
  obtain ⟨nl, hnl⟩ : ∃ nl, NL.length = nl := ⟨_, rfl⟩
  rw [hnl] at HSRT ⊢
  have HOFF0 := Lib.hid hoff
  clear hNL hnv hnl HX1 HX2 HX3 hoA hoB hoC hoD hoff hch hB hB0 hof0
  go_wp2_with fail
  refine HSRT.out.mono ?_
  rintro e w6 ⟨rfl, hown6, ho6⟩
  have HCMP := Lib.hid (comp_own (w0 := W0.drew) hown6 hszC ho6 (by rw [sortS_len]; have := HNL.out; omega))
  clear hown6 ho6
  go_wp2_with fail
  refine HCMP.out.mono ?_
  rintro e w7 ⟨mv, rfl, hown7, ho7⟩
  rw [← HNQ.out] at hown7
  obtain ⟨pm, cm, rfl, hsm⟩ := own_strs hown7
  have HSM : Hid (Strs w7 pm (namesV x)) := Lib.hid hsm
  have HB7 := Lib.hid (HBN.out.off ho7 (by simp))
  have HOF7 := Lib.hid (HOFF0.out.trans_nil ho7)
  rw [HK.out]
  clear hown7 hsm ho7
  go_wp2_with fail
  go_loopw [24, 4] (fun y z wr => ∃ (k : Nat) (vals : List Value), y = .int .i64 k ∧ k ≤ K ∧ wr.ownsRow w7.heap.size 50 4 z k vals ∧ Off [] w7 wr ∧ Hid (VRel w.heap.size wr vals ((belowV x).take k))) (fun y _ _ => K - (intOf y).toNat)
  case atStart => exact ⟨0, [], rfl, by omega, ⟨rfl, .inl ⟨rfl, rfl⟩⟩, Off.refl _ _, Lib.hid (VRel.nil _ _)⟩
  case round =>
    obtain ⟨k, vals, rfl, hk, hown, hof, hv⟩ := hrel
    by_cases hkK : k < K
    · have hkl : k < (namesV x).length := by rw [HK.out]; exact hkK
      have hsk := List.getElem?_eq_getElem hkl
      have hss := namesV_size (List.getElem_mem hkl)
      generalize (namesV x)[k] = s at *
      obtain ⟨g, rfl, hg, hcell⟩ := (HSM.out.off hof) k s hsk
      have HTK := Lib.hid (show (belowV x)[k]? = some (subV x s) by unfold belowV; rw [List.getElem?_map, hsk]; rfl)
      have hBr := HB7.out.off hof (by simp)
      have hcB := hBr.cell
      have hlB := hBr.lt
      have hbne : some w.heap.size ≠ u4.ownBlock := fun e => by
        have := (hown.lt _ e.symm).1
        have := HB7.out.lt
        omega
      have hE : px.toList = [] ↔ str px = [] := by rw [toList_str]
      by_cases hp0 : str px = []
      · have g1 := hE.2 hp0
        have g1' : px.toList.isEmpty = true := by simp [g1]
        have HPP := Lib.hid (show belowP x.path s = s by rw [HPX.out]; unfold belowP; rw [if_pos hp0])
        clear hE hp0 hsk
        go_wp2_with fail
        clear hcB hlB hBr hcell
        have hoff := (HOF7.out.trans_nil hof).drew
        have hB := (HB7.out.off hof (by simp)).drew
        have hch := Off.refl [] wr.drew
        have hownd : wr.drew.ownsRow w7.heap.size 50 4 u4 k vals := hown
        have hbl : Off [] w7 wr.drew := hof.drew
        go_region_held3 (fun w' => w.heap.size < w'.heap.size ∧ ∀ i, w'.cell? ⟨w.heap.size, i, none⟩ = (#[.string px, .slice po lno co, .slice pa lna ca, .slice pb lnb cb] : Array Value)[i]?) (first | assumption | exact ⟨hB.lt, hB.cell⟩ | exact ⟨(hB.alloc _).lt, (hB.alloc _).cell⟩) (first
          | (go_at_call 61; refine (recpart_tri (by exact HMO.out) hT s (hoff.trans_nil hch)).mono ?_; rintro e wA ⟨xo, rfl, hxo, hoA⟩; obtain ⟨q1, c1, rfl, hr1⟩ := SlN.own (own_base hxo (hoff.trans_nil hch).size); have HX1 : Hid (SlN w.heap.size wA (.slice q1 (partV x.o s).length c1) (partV x.o s)) := Lib.hid ⟨q1, c1, rfl, hr1⟩; clear hxo hr1; have hch := hch.trans_nil hoA; have hB := hB.off hoA (by simp))
          | (go_at_call 61; refine (recpart_tri (by exact HMA.out) hT s (hoff.trans_nil hch)).mono ?_; rintro e wB ⟨xo, rfl, hxo, hoB⟩; obtain ⟨q2, c2, rfl, hr2⟩ := SlN.own (own_base hxo (hoff.trans_nil hch).size); have HX2 : Hid (SlN w.heap.size wB (.slice q2 (partV x.a s).length c2) (partV x.a s)) := Lib.hid ⟨q2, c2, rfl, hr2⟩; clear hxo hr2; have hch := hch.trans_nil hoB; have hB := hB.off hoB (by simp))
          | (go_at_call 61; refine (recpart_tri (by exact HMB.out) hT s (hoff.trans_nil hch)).mono ?_; rintro e wC ⟨xo, rfl, hxo, hoC⟩; obtain ⟨q3, c3, rfl, hr3⟩ := SlN.own (own_base hxo (hoff.trans_nil hch).size); have HX3 : Hid (SlN w.heap.size wC (.slice q3 (partV x.b s).length c3) (partV x.b s)) := Lib.hid ⟨q3, c3, rfl, hr3⟩; clear hxo hr3; have hch := hch.trans_nil hoC; have hB := hB.off hoC (by simp))
          | (refine step_append_lies _ (by rfl) _ _ _ (by rfl) w7.heap.size 50 i0 (.agg #[.string ⟨#[]⟩, .slice none 0 0, .slice none 0 0, .slice none 0 0]) 4 88 Tryz.underlying69 hi0 hz0 hz1 hz2 rfl (by decide) u4 k vals (by rfl) ((own_keep hownd hch).alloc _) ⟨wC.heap.size, 0, none⟩ 1 1 [_, _, _, _] (by rfl) (by rfl) (cells_four (Blk.new wC _ _)) (by simp [Value.oneCell']) (by omega) (by unfold maxLen; omega) (by omega) (by have := hbl.size; have := hch.size; simp; omega) (wC.heap.size + 1) (by simp) ?_; intro g6 cap6 w6 hown6 hgrow hat hlt; have hB := (hB.alloc _).grown hgrow hbne))
        have hCh := hch
        have HV6 : Hid (VRel w.heap.size w6 (vals ++ [.string s, .slice q1 (partV x.o s).length c1, .slice q2 (partV x.a s).length c2, .slice q3 (partV x.b s).length c3]) ((belowV x).take (k + 1))) := Lib.hid (by
          have hv := ((hv.out.off (Off.refl [] wr).drew).off hch).off ((Off.refl [] wC).alloc (.cells #[.string s, .slice q1 (partV x.o s).length c1, .slice q2 (partV x.a s).length c2, .slice q3 (partV x.b s).length c3] 50))
          have ha := (Off.refl [] wC).alloc (.cells #[.string s, .slice q1 (partV x.o s).length c1, .slice q2 (partV x.a s).length c2, .slice q3 (partV x.b s).length c3] 50)
          have h1 := (HX1.out.off (hoB.trans_nil hoC)).off ha
          have h2 := (HX2.out.off hoC).off ha
          have h3 := HX3.out.off ha
          have hon := (own_keep hownd hch).alloc (.cells #[.string s, .slice q1 (partV x.o s).length c1, .slice q2 (partV x.a s).length c2, .slice q3 (partV x.b s).length c3] 50)
          rw [take_get HTK.out]
          have hs := (hv.grown (by decide) hon hgrow).snoc (y := subV x s) (h1.grown (by decide) hon hgrow) (h2.grown (by decide) hon hgrow) (h3.grown (by decide) hon hgrow)
          rw [show (subV x s).path = s from HPP.out] at hs
          exact hs)
        have HO6 := Lib.hid (own_grown ((hbl.trans_nil hch).alloc _) ((own_keep hownd hch).alloc _) hgrow)
        clear hch hCh HX1 HX2 HX3 hoA hoB hoC hownd hbl hown hof hv hB hoff hgrow hat
        go_wp2_with fail
        exact ⟨⟨k + 1, _, by congr 1, by omega, hown6, HO6.out, HV6⟩, by simp only [intOf]; omega⟩
      · have g1 : ¬ px.toList = [] := fun e => hp0 (hE.1 e)
        have g1' : px.toList.isEmpty = false := by simpa using g1
        have HPP := Lib.hid (show belowP x.path s = px ++ (⟨#[47]⟩ : ByteArray) ++ s by rw [HPX.out]; unfold belowP; rw [if_neg hp0])
        have a1 : ∀ wx : World, (Op.stringOp .add px ⟨#[47]⟩).run Tryz.prog wx = .ok (.string (px ++ (⟨#[47]⟩ : ByteArray))) wx := fun wx => run_string_add_sum wx _ _ (by show px.size + 1 ≤ _; omega)
        have a2 : ∀ wx : World, (Op.stringOp .add (px ++ (⟨#[47]⟩ : ByteArray)) s).run Tryz.prog wx = .ok (.string (px ++ (⟨#[47]⟩ : ByteArray) ++ s)) wx := fun wx => run_string_add_sum wx _ _ (by rw [ByteArray.size_append]; show px.size + 1 + s.size ≤ _; omega)
        clear hE hp0 hsk
        go_wp2_with fail
        clear hcB hlB hBr hcell
        have hoff := (HOF7.out.trans_nil hof).drew
        have hB := (HB7.out.off hof (by simp)).drew
        have hch := Off.refl [] wr.drew
        have hownd : wr.drew.ownsRow w7.heap.size 50 4 u4 k vals := hown
        have hbl : Off [] w7 wr.drew := hof.drew
        go_region_held3 (fun w' => w.heap.size < w'.heap.size ∧ ∀ i, w'.cell? ⟨w.heap.size, i, none⟩ = (#[.string px, .slice po lno co, .slice pa lna ca, .slice pb lnb cb] : Array Value)[i]?) (first | assumption | exact ⟨hB.lt, hB.cell⟩ | exact ⟨(hB.alloc _).lt, (hB.alloc _).cell⟩) (first
          | (go_at_call 61; refine (recpart_tri (by exact HMO.out) hT s (hoff.trans_nil hch)).mono ?_; rintro e wA ⟨xo, rfl, hxo, hoA⟩; obtain ⟨q1, c1, rfl, hr1⟩ := SlN.own (own_base hxo (hoff.trans_nil hch).size); have HX1 : Hid (SlN w.heap.size wA (.slice q1 (partV x.o s).length c1) (partV x.o s)) := Lib.hid ⟨q1, c1, rfl, hr1⟩; clear hxo hr1; have hch := hch.trans_nil hoA; have hB := hB.off hoA (by simp))
          | (go_at_call 61; refine (recpart_tri (by exact HMA.out) hT s (hoff.trans_nil hch)).mono ?_; rintro e wB ⟨xo, rfl, hxo, hoB⟩; obtain ⟨q2, c2, rfl, hr2⟩ := SlN.own (own_base hxo (hoff.trans_nil hch).size); have HX2 : Hid (SlN w.heap.size wB (.slice q2 (partV x.a s).length c2) (partV x.a s)) := Lib.hid ⟨q2, c2, rfl, hr2⟩; clear hxo hr2; have hch := hch.trans_nil hoB; have hB := hB.off hoB (by simp))
          | (go_at_call 61; refine (recpart_tri (by exact HMB.out) hT s (hoff.trans_nil hch)).mono ?_; rintro e wC ⟨xo, rfl, hxo, hoC⟩; obtain ⟨q3, c3, rfl, hr3⟩ := SlN.own (own_base hxo (hoff.trans_nil hch).size); have HX3 : Hid (SlN w.heap.size wC (.slice q3 (partV x.b s).length c3) (partV x.b s)) := Lib.hid ⟨q3, c3, rfl, hr3⟩; clear hxo hr3; have hch := hch.trans_nil hoC; have hB := hB.off hoC (by simp))
          | (refine step_append_lies _ (by rfl) _ _ _ (by rfl) w7.heap.size 50 i0 (.agg #[.string ⟨#[]⟩, .slice none 0 0, .slice none 0 0, .slice none 0 0]) 4 88 Tryz.underlying69 hi0 hz0 hz1 hz2 rfl (by decide) u4 k vals (by rfl) ((own_keep hownd hch).alloc _) ⟨wC.heap.size, 0, none⟩ 1 1 [_, _, _, _] (by rfl) (by rfl) (cells_four (Blk.new wC _ _)) (by simp [Value.oneCell']) (by omega) (by unfold maxLen; omega) (by omega) (by have := hbl.size; have := hch.size; simp; omega) (wC.heap.size + 1) (by simp) ?_; intro g6 cap6 w6 hown6 hgrow hat hlt; have hB := (hB.alloc _).grown hgrow hbne))
        have hCh := hch
        have HV6 : Hid (VRel w.heap.size w6 (vals ++ [.string (px ++ (⟨#[47]⟩ : ByteArray) ++ s), .slice q1 (partV x.o s).length c1, .slice q2 (partV x.a s).length c2, .slice q3 (partV x.b s).length c3]) ((belowV x).take (k + 1))) := Lib.hid (by
          have hv := ((hv.out.off (Off.refl [] wr).drew).off hch).off ((Off.refl [] wC).alloc (.cells #[.string (px ++ (⟨#[47]⟩ : ByteArray) ++ s), .slice q1 (partV x.o s).length c1, .slice q2 (partV x.a s).length c2, .slice q3 (partV x.b s).length c3] 50))
          have ha := (Off.refl [] wC).alloc (.cells #[.string (px ++ (⟨#[47]⟩ : ByteArray) ++ s), .slice q1 (partV x.o s).length c1, .slice q2 (partV x.a s).length c2, .slice q3 (partV x.b s).length c3] 50)
          have h1 := (HX1.out.off (hoB.trans_nil hoC)).off ha
          have h2 := (HX2.out.off hoC).off ha
          have h3 := HX3.out.off ha
          have hon := (own_keep hownd hch).alloc (.cells #[.string (px ++ (⟨#[47]⟩ : ByteArray) ++ s), .slice q1 (partV x.o s).length c1, .slice q2 (partV x.a s).length c2, .slice q3 (partV x.b s).length c3] 50)
          rw [take_get HTK.out]
          have hs := (hv.grown (by decide) hon hgrow).snoc (y := subV x s) (h1.grown (by decide) hon hgrow) (h2.grown (by decide) hon hgrow) (h3.grown (by decide) hon hgrow)
          rw [show (subV x s).path = px ++ (⟨#[47]⟩ : ByteArray) ++ s from HPP.out] at hs
          exact hs)
        have HO6 := Lib.hid (own_grown ((hbl.trans_nil hch).alloc _) ((own_keep hownd hch).alloc _) hgrow)
        clear hch hCh HX1 HX2 HX3 hoA hoB hoC hownd hbl hown hof hv hB hoff hgrow hat
        go_wp2_with fail
        exact ⟨⟨k + 1, _, by congr 1, by omega, hown6, HO6.out, HV6⟩, by simp only [intOf]; omega⟩
    · obtain rfl : k = K := by omega
      have hlen : (belowV x).length = k := by unfold belowV; rw [List.length_map, HK.out]
      have hv' := hv.out
      rw [List.take_of_length_le (by rw [hlen]; exact Nat.le_refl _)] at hv'
      obtain ⟨pz, cz, rfl, hvw⟩ := views_own hlen hown hv' HOF7.out.size
      have HVW := Lib.hid hvw
      clear hvw hown hv'
      go_wp2_with fail
      go_ret
      exact ⟨pz, cz, by rw [hlen]; rfl, HVW.out, HOF7.out.trans_nil hof⟩
end Go.Proofs.YtpaeihdkggbeoaaGreatDoor
