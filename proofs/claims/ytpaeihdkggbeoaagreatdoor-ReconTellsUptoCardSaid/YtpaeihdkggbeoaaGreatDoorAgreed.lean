/- recon's agreed of a view: the walk. Conditions: what each contract states. -/
import Derived.Test.YtpaeihdkggbeoaaGreatDoorItems
namespace Go.Proofs.YtpaeihdkggbeoaaGreatDoor
open Go.RowKit Go.Op

def genAll (h_ : Nat → ByteArray → ByteArray) (v : List Node) : List Node := v.mapIdx fun k n => { n with path := h_ k n.path }
/-- as far as the paths are written -/
def genTo (h_ : Nat → ByteArray → ByteArray) (v : List Node) (k : Nat) : List Node := v.mapIdx fun i n => if i < k then { n with path := h_ i n.path } else n
theorem genTo_zero (h_ : Nat → ByteArray → ByteArray) (v : List Node) : genTo h_ v 0 = v := by
  unfold genTo
  apply List.ext_getElem?
  intro i
  rw [List.getElem?_mapIdx]
  cases v[i]? <;> simp
theorem genTo_get {h_ : Nat → ByteArray → ByteArray} {v : List Node} {k i : Nat} {x : Node} (h : v[i]? = some x) : (genTo h_ v k)[i]? = some (if i < k then { x with path := h_ i x.path } else x) := by
  unfold genTo; rw [List.getElem?_mapIdx, h]; rfl
theorem genTo_succ {h_ : Nat → ByteArray → ByteArray} {v : List Node} {k : Nat} {x : Node} (h : v[k]? = some x) : genTo h_ v (k + 1) = (genTo h_ v k).set k { x with path := h_ k x.path } := by
  apply List.ext_getElem?
  intro i
  rw [List.getElem?_set]
  unfold genTo
  rw [List.getElem?_mapIdx, List.getElem?_mapIdx, List.length_mapIdx]
  have hk := (List.getElem?_eq_some_iff.1 h).1
  by_cases hik : k = i
  · subst hik
    rw [h]; simp [hk]
  · rw [if_neg hik]
    cases v[i]? with
    | none => rfl
    | some y =>
      have : (i < k + 1) = (i < k) := by apply propext; omega
      simp [this]
theorem genTo_all (h_ : Nat → ByteArray → ByteArray) (v : List Node) : genTo h_ v v.length = genAll h_ v := by
  apply List.ext_getElem?
  intro i
  unfold genTo genAll
  rw [List.getElem?_mapIdx, List.getElem?_mapIdx]
  cases h : v[i]? with
  | none => rfl
  | some y => simp [(List.getElem?_eq_some_iff.1 h).1]
theorem genTo_len (h_ : Nat → ByteArray → ByteArray) (v : List Node) (k : Nat) : (genTo h_ v k).length = v.length := by unfold genTo; simp
def layP (path : ByteArray) (k : Nat) (x : ByteArray) : ByteArray := if k = 0 then path else belowP path x
def laidV (path : ByteArray) (v : List Node) : List Node := genAll (layP path) v
def agreedV : Nat → Vw → List Node
  | 0, _ => []
  | f + 1, w =>
    if w.a = w.b then laidV w.path w.a
    else if (dirV w.a && dirV w.b) = true then ⟨w.path, 2, ⟨#[]⟩, 0⟩ :: (belowV w).flatMap (agreedV f)
    else laidV w.path w.o
/-- no path in it is long -/
structure Small (x : Vw) : Prop where
  o : ∀ n ∈ x.o, n.path.size ≤ 400
  a : ∀ n ∈ x.a, n.path.size ≤ 400
theorem atR_small {t : List Node} {q : Str} {n : Node} (h : n ∈ atR t q) : n.path.size ≤ 400 := by
  unfold atR at h
  split at h
  · rename_i hk
    split at h
    · rcases List.mem_cons.1 h with rfl | h
      · decide
      · exact okTree_small hk h
    · split at h
      · obtain ⟨y, hy, rfl⟩ := List.mem_map.1 h
        have h1 := okTree_small hk (mem_inAt.1 hy).1
        show (bs (y.p.drop (q.length + 1))).size ≤ 400
        rw [bs_size, List.length_drop]
        have h2 : y.p.length = y.path.size := str_size y.path
        omega
      · cases h
  · cases h
theorem partV_small {v : List Node} {x : ByteArray} {n : Node} (h : n ∈ partV v x) : n.path.size ≤ 400 := by
  unfold partV at h
  split at h
  · exact atR_small h
  · cases h
theorem belowV_small {x y : Vw} (hy : y ∈ belowV x) : Small y := by
  unfold belowV at hy
  obtain ⟨s, hs, rfl⟩ := List.mem_map.1 hy
  exact ⟨fun n hn => partV_small hn, fun n hn => partV_small hn⟩
theorem row_offL {b B : Nat} {w w' : World} {p : Option Addr} {t : List Node} (h : Row w p t) (ho : Off [b] w w') (hb : b < B) (hB : ∀ a, p = some a → B ≤ a.block) : Row w' p t := fun hne => by
  obtain ⟨a, rfl, hbk, hn⟩ := h hne
  have hB' := hB a rfl
  have hne' : ∀ q : Addr, q.block = a.block → w'.cell? q = w.cell? q := fun q hq => ho.cell (by rw [hq]; exact hbk) (by rw [hq, List.mem_singleton]; omega)
  refine ⟨a, rfl, Nat.lt_of_lt_of_le hbk ho.size, fun i n hi => ?_⟩
  have h := hn i n hi
  exact ⟨(hne' _ (add_block _ _)).trans h.path, (hne' ⟨_, _, none⟩ (add_block a (i * 4))).trans h.kind, (hne' ⟨_, _, none⟩ (add_block a (i * 4))).trans h.data, (hne' ⟨_, _, none⟩ (add_block a (i * 4))).trans h.mode⟩
theorem SlN.offL {b B : Nat} {w w' : World} {v : Value} {t : List Node} (h : SlN B w v t) (ho : Off [b] w w') (hb : b < B) : SlN B w' v t := by
  obtain ⟨p, c, h1, h2, h3, h4, h5, h6, h7⟩ := h
  refine ⟨p, c, h1, row_offL h2 ho hb h7, h3, h4, h5, fun a ha => ?_, h7⟩
  obtain ⟨cur, hc⟩ := h6 a ha
  have := h7 a ha
  exact ⟨cur, (ho.block _ (Array.getElem?_eq_some_iff.1 hc).1 (by rw [List.mem_singleton]; omega)).trans hc⟩
theorem Views.offL {b B : Nat} {w w' : World} {p : Option Addr} {L : List Vw} (h : Views B w p L) (ho : Off [b] w w') (hb : b < B) : Views B w' p L := fun i y hi => by
  obtain ⟨q, vo, va, vb, hp, hq, hv⟩ := h i y hi
  have hne' : ∀ r : Addr, r.block = q.block → w'.cell? r = w.cell? r := fun r hr => ho.cell (by rw [hr]; exact hq.1) (by rw [hr, List.mem_singleton]; have := hq.2; omega)
  exact ⟨q, vo, va, vb, hp, ⟨Nat.lt_of_lt_of_le hq.1 ho.size, hq.2⟩, (hne' _ (add_block _ _)).trans hv.path, (hne' ⟨_, _, none⟩ (add_block q (i * 4))).trans hv.o, (hne' ⟨_, _, none⟩ (add_block q (i * 4))).trans hv.a, (hne' ⟨_, _, none⟩ (add_block q (i * 4))).trans hv.b, hv.so.offL ho hb, hv.sa.offL ho hb, hv.sb.offL ho hb⟩
theorem run_append_zero {P : Program} {w : World} (base : Nat) (t ty e : TypeId) (i : TypeInfo) (size : Nat) (ht : P.underlying t = some (.slice e)) (hi : P.info? e = some i)
    (v : Value) (n : Nat) (xs : List Value) (hown : w.ownsRow base e size v n xs) (ad : Addr) (c : Nat) :
    (Builtin.append_ #[t, t] ty #[v, .slice (some ad) 0 c]).run P w = .ok v w := by
  have hf := run_firstCells_some (P := P) w i.size 0 ad 0 c [] (by simp) (fun j u h => by simp at h)
  rcases hown.2 with ⟨rfl, rfl⟩ | ⟨g, cap, cur, rfl, _, _, hnc, _⟩
  · simp [Builtin.append_, run_underlying ht, sizeOf, typeInfo, hi, Builtin.lenOf, hf]
  · simp [Builtin.append_, run_underlying ht, sizeOf, typeInfo, hi, Builtin.lenOf, hf, hnc, storeCells]
theorem flatN_take {f : Vw → List Node} {L : List Vw} {i : Nat} {y : Vw} (h : L[i]? = some y) : (L.take (i + 1)).flatMap f = (L.take i).flatMap f ++ f y := by
  rw [take_get h, List.flatMap_append]; simp
theorem flatN_le {f : Vw → List Node} (L : List Vw) (i : Nat) : ((L.take i).flatMap f).length ≤ (L.flatMap f).length := by
  conv => rhs; rw [← List.take_append_drop i L]
  rw [List.flatMap_append, List.length_append]; omega
set_option maxRecDepth 100000 in
set_option maxHeartbeats 16000000 in
theorem agreed_step (f : Nat) (ih : ∀ (B : Nat) (y : Vw) (vo va vb : Value) (W : World), y.a.length < f → SlN B W vo y.o → SlN B W va y.a → SlN B W vb y.b → Fine y → Small y → (agreedV f y).length ≤ 1000000000 → Tabs W → Calls Tryz.prog 23 #[.agg #[.string y.path, vo, va, vb]] W (OwnT (agreedV f y) W)) (B : Nat) (x : Vw) (vo va vb : Value) (w : World) (hlt : x.a.length < f + 1) (so : SlN B w vo x.o) (sa : SlN B w va x.a) (sb : SlN B w vb x.b) (hF : Fine x) (hSm : Small x) (hlen : (agreedV (f + 1) x).length ≤ 1000000000) (hT : Tabs w) :
    Calls Tryz.prog 23 #[.agg #[.string x.path, vo, va, vb]] w (OwnT (agreedV (f + 1) x) w) := by
    have HIH := Lib.hid ih
    clear ih
    obtain ⟨i0, hi0, hz0, hz1, hz2⟩ := info_parts infoNode
    have HBL := Lib.hid (fun (W : World) (ho : Off [] w W) => below_any x vo va vb W (so.off ho) (sa.off ho) (sb.off ho) hF (hT.off ho))
    have hlo := hF.lo
    have hla := hF.la
    have hlb := hF.lb
    have hpz := hF.path
    have HF := Lib.hid hF
    have HSMO := Lib.hid hSm.o
    have HSMA := Lib.hid hSm.a
    obtain ⟨po, co, rfl, ro, lo, mo, no_, -, -⟩ := so
    obtain ⟨pa, ca, rfl, ra, la, ma, na, -, -⟩ := sa
    obtain ⟨pb, cb, rfl, rb, lb, mb, nb, -, -⟩ := sb
    have HRO := Lib.hid ro
    have HRA := Lib.hid ra
    have HNNO := Lib.hid (fun h => (no_ h).1)
    have HNNA := Lib.hid (fun h => (na h).1)
    obtain ⟨px, hpx⟩ : ∃ px, x.path = px := ⟨_, rfl⟩
    obtain ⟨no, hno⟩ : ∃ k, x.o.length = k := ⟨_, rfl⟩
    obtain ⟨nna, hna⟩ : ∃ k, x.a.length = k := ⟨_, rfl⟩
    obtain ⟨nnb, hnb⟩ : ∃ k, x.b.length = k := ⟨_, rfl⟩
    have hpb : px.size ≤ 200000 := by rw [← hpx]; omega
    rw [hno] at lo hlo
    rw [hna] at la hla hlt
    rw [hnb] at lb hlb
    rw [hpx, hno, hna, hnb] at HBL ⊢
    have HAB := Lib.hid (fun (W : World) (ho : Off [] w W) (b : Bool) (hb : decide (x.a = x.b) = b) => same_v x.a x.b pa pb nna nnb ca cb W hna hnb (by omega) (by omega) (ra.off ho) (rb.off ho) b hb)
    have HDA := Lib.hid (fun (W : World) (ho : Off [] w W) (b : Bool) (hb : dirV x.a = b) => recdir_any pa x.a nna ca W (ra.off ho) hna b hb)
    have HDB := Lib.hid (fun (W : World) (ho : Off [] w W) (b : Bool) (hb : dirV x.b = b) => recdir_any pb x.b nnb cb W (rb.off ho) hnb b hb)
    have HPX := Lib.hid hpx
    have HNO := Lib.hid hno
    have HNA := Lib.hid hna
    have HLEN := Lib.hid hlen
    have HEP := Lib.hid (show px.toList = [] ↔ str px = [] by rw [toList_str])
    have HBW := Lib.hid (Blk.new w 50 #[.string px, .slice po no co, .slice pa nna ca, .slice pb nnb cb])
    have HOW := Lib.hid ((Off.refl [] w).alloc (.cells #[.string px, .slice po no co, .slice pa nna ca, .slice pb nnb cb] 50))
    clear hF hSm ro ra rb lo la lb mo ma mb no_ na nb hpx hno hna hnb hlen hpz
    by_cases hab : x.a = x.b
    · have HE := Lib.hid (decide_eq_true hab)
      have E := Lib.hid (show agreedV (f + 1) x = laidV px x.a by rw [← HPX.out]; unfold agreedV; rw [if_pos hab])
      clear hab
      go_enter Tryz.func23, Tryz.ntmps23
      go_wp2_with fail
      refine (HAB.out _ HOW.out true HE.out).mono ?_
      rintro e w1 ⟨rfl, ho⟩
      have hB := HBW.out.off ho (by simp)
      have ho := HOW.out.trans_nil ho
      have hcB := hB.cell
      have hlB := hB.lt
      go_wp2_with fail
      refine (clone_any pa x.a nna ca _ (HRA.out.off ho) HNA.out (by omega) HNNA.out).mono ?_
      rintro e w5 ⟨own, rfl, hown, ho2⟩
      have hown := own_base hown ho.size
      have hB5 := hB.off ho2 (by simp)
      have hof5 := ho.trans_nil ho2
      obtain ⟨po5, co5, rfl⟩ : ∃ po5 co5, own = .slice po5 nna co5 := by
        rcases hown.2 with ⟨h1, h2⟩ | ⟨g, cap, cur, h1, _⟩
        · exact ⟨none, 0, by rw [h1, h2]⟩
        · exact ⟨_, _, h1⟩
      clear ho2 ho hB hcB hlB
      go_wp2_with fail
      go_loopw [48] (fun y wr => ∃ k : Nat, y = .int .i64 k ∧ k ≤ nna ∧ wr.ownsRow w.heap.size 40 4 (.slice po5 nna co5) nna (cellsOf (genTo (layP px) x.a k)) ∧ Off [] w wr ∧ Blk wr w.heap.size 50 #[.string px, .slice po no co, .slice pa nna ca, .slice pb nnb cb]) (fun y _ => nna - (intOf y).toNat)
      case atStart => exact ⟨0, rfl, by omega, by rw [genTo_zero]; exact hown, hof5, hB5⟩
      case round =>
        clear hown hof5 hB5
        obtain ⟨k, rfl, hk, hown, hof, hB⟩ := hrel
        by_cases hkm : k < nna
        · obtain ⟨g, cg, hgv, hcg⟩ := own_some hown (by omega)
          cases hgv
          have hkl : k < (x.a).length := by rw [HNA.out]; exact hkm
          have hxk := List.getElem?_eq_getElem hkl
          have hysz := HSMA.out _ (List.getElem_mem hkl)
          generalize (x.a)[k] = y at *
          have hmk := genTo_get (h_ := layP px) (k := k) hxk
          rw [if_neg (by omega)] at hmk
          have HMK := Lib.hid hmk
          have HXK := Lib.hid hxk
          have HOWN := Lib.hid hown
          have c0 := own_cell hown (cellsOf_at _ _ _ hmk)
          have f0 := own_frozen hown (k * 4)
          have hg0 := own_lt hown
          have hgne : ¬ g = w.heap.size := fun e => by
            rcases hown.2 with ⟨h0, _⟩ | ⟨g', cap', cur, hv, hb, hh, _⟩
            · cases h0
            · injection hv with h1 h2 h3
              injection h1 with h1
              injection h1 with h1 _
              subst h1
              rw [e] at hh
              exact (Blk.ne_ (w := wr) (g := w.heap.size) (g' := w.heap.size) hh hB (by decide)) rfl
          have hgne' : ¬ w.heap.size = g := fun e => hgne e.symm
          have hcB := hB.cell
          have hlB := hB.lt
          have HBB := Lib.hid hB
          have HNX := Lib.hid (show ∀ s, s = layP px k y.path → (cellsOf (genTo (layP px) x.a k)).set (k * 4) (.string s) = cellsOf (genTo (layP px) x.a (k + 1)) from fun s hs => by
            rw [cellsOf_set _ _ _ _ HMK.out, genTo_succ HXK.out, hs])
          clear hown hB hxk hmk
          by_cases hk0 : k = 0
          · subst hk0
            have HS0 := Lib.hid (own_set HOWN.out (by omega) (0 * 4) (.string px))
            have HO0 := Lib.hid (hof.setCell (p := ⟨g, 0 * 4, none⟩) (.inl hg0.1) (.string px))
            have HB0 := Lib.hid (HBB.out.far (p := ⟨g, 0 * 4, none⟩) hgne' (.string px))
            go_wp2_with fail
            refine ⟨⟨0 + 1, rfl, by omega, ?_, HO0.out, HB0.out⟩, by simp only [intOf]; omega⟩
            have h9 := HS0.out
            rw [HNX.out px rfl] at h9
            exact h9
          · have hkb : ((k : Int) == 0) = false := beq_eq_false_iff_ne.2 (by omega)
            by_cases hp0 : str px = []
            · have g1 : px.toList = [] := HEP.out.2 hp0
              have g1' : px.toList.isEmpty = true := by simp [g1]
              have hlay : layP px k y.path = y.path := by unfold layP belowP; rw [if_neg hk0, if_pos hp0]
              have HL := Lib.hid hlay
              clear hp0 hlay
              go_wp2_with fail
              refine ⟨⟨k + 1, by congr 1, by omega, ?_, hof, HBB.out⟩, by simp only [intOf]; omega⟩
              have e9 : cellsOf (genTo (layP px) x.a (k + 1)) = cellsOf (genTo (layP px) x.a k) := by
                rw [← HNX.out y.path HL.out.symm]
                exact List.ext_getElem? fun j => by
                  rw [List.getElem?_set]
                  split
                  · rename_i hj
                    subst hj
                    have h8 := cellsOf_at _ _ _ HMK.out
                    rw [h8]
                    simp [(List.getElem?_eq_some_iff.1 h8).1]
                  · rfl
              rw [e9]
              exact HOWN.out
            · have g1 : ¬ px.toList = [] := fun e => hp0 (HEP.out.1 e)
              have g1' : px.toList.isEmpty = false := by simpa using g1
              have hlay : layP px k y.path = px ++ (⟨#[47]⟩ : ByteArray) ++ y.path := by unfold layP belowP; rw [if_neg hk0, if_neg hp0]
              have HL := Lib.hid hlay
              have a1 : ∀ wx : World, (Op.stringOp .add px ⟨#[47]⟩).run Tryz.prog wx = .ok (.string (px ++ (⟨#[47]⟩ : ByteArray))) wx := fun wx => run_string_add_sum wx _ _ (by show px.size + 1 ≤ _; omega)
              have a2 : ∀ wx : World, (Op.stringOp .add (px ++ (⟨#[47]⟩ : ByteArray)) y.path).run Tryz.prog wx = .ok (.string (px ++ (⟨#[47]⟩ : ByteArray) ++ y.path)) wx := fun wx => run_string_add_sum wx _ _ (by rw [ByteArray.size_append]; show px.size + 1 + y.path.size ≤ _; omega)
              have HS1 := Lib.hid (own_set HOWN.out (by omega) (k * 4) (.string (px ++ (⟨#[47]⟩ : ByteArray) ++ y.path)))
              have HO1 := Lib.hid (hof.setCell (p := ⟨g, k * 4, none⟩) (.inl hg0.1) (.string (px ++ (⟨#[47]⟩ : ByteArray) ++ y.path)))
              have HB1 := Lib.hid (HBB.out.far (p := ⟨g, k * 4, none⟩) hgne' (.string (px ++ (⟨#[47]⟩ : ByteArray) ++ y.path)))
              clear hp0 hlay
              go_wp2_with fail
              go_region
              go_wp2_with fail
              refine ⟨⟨k + 1, by congr 1, by omega, ?_, HO1.out.drew, HB1.out.drew⟩, by simp only [intOf]; omega⟩
              have h9 := HS1.out
              rw [HNX.out _ HL.out.symm] at h9
              exact h9
        · obtain rfl : k = nna := by omega
          have e9 := genTo_all (layP px) x.a
          rw [HNA.out] at e9
          rw [e9] at hown
          go_wp2_with fail
          go_ret
          rw [E.out]
          refine ⟨_, rfl, ?_, hof⟩
          rw [show (laidV px x.a).length = k by unfold laidV genAll; rw [List.length_mapIdx, HNA.out]]
          exact hown
    have HE := Lib.hid (decide_eq_false hab)
    have HAN := Lib.hid hab
    clear hab
    cases hda : dirV x.a
    · have E := Lib.hid (show agreedV (f + 1) x = laidV px x.o by
        rw [← HPX.out]
        show (if x.a = x.b then _ else if (dirV x.a && dirV x.b) = true then _ else _) = _
        rw [if_neg HAN.out, hda, if_neg (by simp)])
      have HD := Lib.hid hda
      clear hda
      go_enter Tryz.func23, Tryz.ntmps23
      go_wp2_with fail
      refine (HAB.out _ HOW.out false HE.out).mono ?_
      rintro e w1 ⟨rfl, ho⟩
      have hB := HBW.out.off ho (by simp)
      have ho := HOW.out.trans_nil ho
      have hcB := hB.cell
      have hlB := hB.lt
      go_wp2_with fail
      refine (HDA.out _ ho false HD.out).mono ?_
      rintro e w2 ⟨rfl, ho2⟩
      have hB := hB.off ho2 (by simp)
      have ho := ho.trans_nil ho2
      clear hcB hlB ho2
      have hcB := hB.cell
      have hlB := hB.lt
      go_wp2_with fail
      refine (clone_any po x.o no co _ (HRO.out.off ho) HNO.out (by omega) HNNO.out).mono ?_
      rintro e w5 ⟨own, rfl, hown, ho2⟩
      have hown := own_base hown ho.size
      have hB5 := hB.off ho2 (by simp)
      have hof5 := ho.trans_nil ho2
      obtain ⟨po5, co5, rfl⟩ : ∃ po5 co5, own = .slice po5 no co5 := by
        rcases hown.2 with ⟨h1, h2⟩ | ⟨g, cap, cur, h1, _⟩
        · exact ⟨none, 0, by rw [h1, h2]⟩
        · exact ⟨_, _, h1⟩
      clear ho2 ho hB hcB hlB
      go_wp2_with fail
      go_loopw [48] (fun y wr => ∃ k : Nat, y = .int .i64 k ∧ k ≤ no ∧ wr.ownsRow w.heap.size 40 4 (.slice po5 no co5) no (cellsOf (genTo (layP px) x.o k)) ∧ Off [] w wr ∧ Blk wr w.heap.size 50 #[.string px, .slice po no co, .slice pa nna ca, .slice pb nnb cb]) (fun y _ => no - (intOf y).toNat)
      case atStart => exact ⟨0, rfl, by omega, by rw [genTo_zero]; exact hown, hof5, hB5⟩
      case round =>
        clear hown hof5 hB5
        obtain ⟨k, rfl, hk, hown, hof, hB⟩ := hrel
        by_cases hkm : k < no
        · obtain ⟨g, cg, hgv, hcg⟩ := own_some hown (by omega)
          cases hgv
          have hkl : k < (x.o).length := by rw [HNO.out]; exact hkm
          have hxk := List.getElem?_eq_getElem hkl
          have hysz := HSMO.out _ (List.getElem_mem hkl)
          generalize (x.o)[k] = y at *
          have hmk := genTo_get (h_ := layP px) (k := k) hxk
          rw [if_neg (by omega)] at hmk
          have HMK := Lib.hid hmk
          have HXK := Lib.hid hxk
          have HOWN := Lib.hid hown
          have c0 := own_cell hown (cellsOf_at _ _ _ hmk)
          have f0 := own_frozen hown (k * 4)
          have hg0 := own_lt hown
          have hgne : ¬ g = w.heap.size := fun e => by
            rcases hown.2 with ⟨h0, _⟩ | ⟨g', cap', cur, hv, hb, hh, _⟩
            · cases h0
            · injection hv with h1 h2 h3
              injection h1 with h1
              injection h1 with h1 _
              subst h1
              rw [e] at hh
              exact (Blk.ne_ (w := wr) (g := w.heap.size) (g' := w.heap.size) hh hB (by decide)) rfl
          have hgne' : ¬ w.heap.size = g := fun e => hgne e.symm
          have hcB := hB.cell
          have hlB := hB.lt
          have HBB := Lib.hid hB
          have HNX := Lib.hid (show ∀ s, s = layP px k y.path → (cellsOf (genTo (layP px) x.o k)).set (k * 4) (.string s) = cellsOf (genTo (layP px) x.o (k + 1)) from fun s hs => by
            rw [cellsOf_set _ _ _ _ HMK.out, genTo_succ HXK.out, hs])
          clear hown hB hxk hmk
          by_cases hk0 : k = 0
          · subst hk0
            have HS0 := Lib.hid (own_set HOWN.out (by omega) (0 * 4) (.string px))
            have HO0 := Lib.hid (hof.setCell (p := ⟨g, 0 * 4, none⟩) (.inl hg0.1) (.string px))
            have HB0 := Lib.hid (HBB.out.far (p := ⟨g, 0 * 4, none⟩) hgne' (.string px))
            go_wp2_with fail
            refine ⟨⟨0 + 1, rfl, by omega, ?_, HO0.out, HB0.out⟩, by simp only [intOf]; omega⟩
            have h9 := HS0.out
            rw [HNX.out px rfl] at h9
            exact h9
          · have hkb : ((k : Int) == 0) = false := beq_eq_false_iff_ne.2 (by omega)
            by_cases hp0 : str px = []
            · have g1 : px.toList = [] := HEP.out.2 hp0
              have g1' : px.toList.isEmpty = true := by simp [g1]
              have hlay : layP px k y.path = y.path := by unfold layP belowP; rw [if_neg hk0, if_pos hp0]
              have HL := Lib.hid hlay
              clear hp0 hlay
              go_wp2_with fail
              refine ⟨⟨k + 1, by congr 1, by omega, ?_, hof, HBB.out⟩, by simp only [intOf]; omega⟩
              have e9 : cellsOf (genTo (layP px) x.o (k + 1)) = cellsOf (genTo (layP px) x.o k) := by
                rw [← HNX.out y.path HL.out.symm]
                exact List.ext_getElem? fun j => by
                  rw [List.getElem?_set]
                  split
                  · rename_i hj
                    subst hj
                    have h8 := cellsOf_at _ _ _ HMK.out
                    rw [h8]
                    simp [(List.getElem?_eq_some_iff.1 h8).1]
                  · rfl
              rw [e9]
              exact HOWN.out
            · have g1 : ¬ px.toList = [] := fun e => hp0 (HEP.out.1 e)
              have g1' : px.toList.isEmpty = false := by simpa using g1
              have hlay : layP px k y.path = px ++ (⟨#[47]⟩ : ByteArray) ++ y.path := by unfold layP belowP; rw [if_neg hk0, if_neg hp0]
              have HL := Lib.hid hlay
              have a1 : ∀ wx : World, (Op.stringOp .add px ⟨#[47]⟩).run Tryz.prog wx = .ok (.string (px ++ (⟨#[47]⟩ : ByteArray))) wx := fun wx => run_string_add_sum wx _ _ (by show px.size + 1 ≤ _; omega)
              have a2 : ∀ wx : World, (Op.stringOp .add (px ++ (⟨#[47]⟩ : ByteArray)) y.path).run Tryz.prog wx = .ok (.string (px ++ (⟨#[47]⟩ : ByteArray) ++ y.path)) wx := fun wx => run_string_add_sum wx _ _ (by rw [ByteArray.size_append]; show px.size + 1 + y.path.size ≤ _; omega)
              have HS1 := Lib.hid (own_set HOWN.out (by omega) (k * 4) (.string (px ++ (⟨#[47]⟩ : ByteArray) ++ y.path)))
              have HO1 := Lib.hid (hof.setCell (p := ⟨g, k * 4, none⟩) (.inl hg0.1) (.string (px ++ (⟨#[47]⟩ : ByteArray) ++ y.path)))
              have HB1 := Lib.hid (HBB.out.far (p := ⟨g, k * 4, none⟩) hgne' (.string (px ++ (⟨#[47]⟩ : ByteArray) ++ y.path)))
              clear hp0 hlay
              go_wp2_with fail
              go_region
              go_wp2_with fail
              refine ⟨⟨k + 1, by congr 1, by omega, ?_, HO1.out.drew, HB1.out.drew⟩, by simp only [intOf]; omega⟩
              have h9 := HS1.out
              rw [HNX.out _ HL.out.symm] at h9
              exact h9
        · obtain rfl : k = no := by omega
          have e9 := genTo_all (layP px) x.o
          rw [HNO.out] at e9
          rw [e9] at hown
          go_wp2_with fail
          go_ret
          rw [E.out]
          refine ⟨_, rfl, ?_, hof⟩
          rw [show (laidV px x.o).length = k by unfold laidV genAll; rw [List.length_mapIdx, HNO.out]]
          exact hown
    cases hdb : dirV x.b
    · have E := Lib.hid (show agreedV (f + 1) x = laidV px x.o by
        rw [← HPX.out]
        show (if x.a = x.b then _ else if (dirV x.a && dirV x.b) = true then _ else _) = _
        rw [if_neg HAN.out, hda, hdb, if_neg (by simp)])
      have HD := Lib.hid hda
      have HD2 := Lib.hid hdb
      clear hda hdb
      go_enter Tryz.func23, Tryz.ntmps23
      go_wp2_with fail
      refine (HAB.out _ HOW.out false HE.out).mono ?_
      rintro e w1 ⟨rfl, ho⟩
      have hB := HBW.out.off ho (by simp)
      have ho := HOW.out.trans_nil ho
      have hcB := hB.cell
      have hlB := hB.lt
      go_wp2_with fail
      refine (HDA.out _ ho true HD.out).mono ?_
      rintro e w2 ⟨rfl, ho2⟩
      have hB := hB.off ho2 (by simp)
      have ho := ho.trans_nil ho2
      clear hcB hlB ho2
      have hcB := hB.cell
      have hlB := hB.lt
      go_wp2_with fail
      refine (HDB.out _ ho false HD2.out).mono ?_
      rintro e w2 ⟨rfl, ho2⟩
      have hB := hB.off ho2 (by simp)
      have ho := ho.trans_nil ho2
      clear hcB hlB ho2
      have hcB := hB.cell
      have hlB := hB.lt
      go_wp2_with fail
      refine (clone_any po x.o no co _ (HRO.out.off ho) HNO.out (by omega) HNNO.out).mono ?_
      rintro e w5 ⟨own, rfl, hown, ho2⟩
      have hown := own_base hown ho.size
      have hB5 := hB.off ho2 (by simp)
      have hof5 := ho.trans_nil ho2
      obtain ⟨po5, co5, rfl⟩ : ∃ po5 co5, own = .slice po5 no co5 := by
        rcases hown.2 with ⟨h1, h2⟩ | ⟨g, cap, cur, h1, _⟩
        · exact ⟨none, 0, by rw [h1, h2]⟩
        · exact ⟨_, _, h1⟩
      clear ho2 ho hB hcB hlB
      go_wp2_with fail
      go_loopw [48] (fun y wr => ∃ k : Nat, y = .int .i64 k ∧ k ≤ no ∧ wr.ownsRow w.heap.size 40 4 (.slice po5 no co5) no (cellsOf (genTo (layP px) x.o k)) ∧ Off [] w wr ∧ Blk wr w.heap.size 50 #[.string px, .slice po no co, .slice pa nna ca, .slice pb nnb cb]) (fun y _ => no - (intOf y).toNat)
      case atStart => exact ⟨0, rfl, by omega, by rw [genTo_zero]; exact hown, hof5, hB5⟩
      case round =>
        clear hown hof5 hB5
        obtain ⟨k, rfl, hk, hown, hof, hB⟩ := hrel
        by_cases hkm : k < no
        · obtain ⟨g, cg, hgv, hcg⟩ := own_some hown (by omega)
          cases hgv
          have hkl : k < (x.o).length := by rw [HNO.out]; exact hkm
          have hxk := List.getElem?_eq_getElem hkl
          have hysz := HSMO.out _ (List.getElem_mem hkl)
          generalize (x.o)[k] = y at *
          have hmk := genTo_get (h_ := layP px) (k := k) hxk
          rw [if_neg (by omega)] at hmk
          have HMK := Lib.hid hmk
          have HXK := Lib.hid hxk
          have HOWN := Lib.hid hown
          have c0 := own_cell hown (cellsOf_at _ _ _ hmk)
          have f0 := own_frozen hown (k * 4)
          have hg0 := own_lt hown
          have hgne : ¬ g = w.heap.size := fun e => by
            rcases hown.2 with ⟨h0, _⟩ | ⟨g', cap', cur, hv, hb, hh, _⟩
            · cases h0
            · injection hv with h1 h2 h3
              injection h1 with h1
              injection h1 with h1 _
              subst h1
              rw [e] at hh
              exact (Blk.ne_ (w := wr) (g := w.heap.size) (g' := w.heap.size) hh hB (by decide)) rfl
          have hgne' : ¬ w.heap.size = g := fun e => hgne e.symm
          have hcB := hB.cell
          have hlB := hB.lt
          have HBB := Lib.hid hB
          have HNX := Lib.hid (show ∀ s, s = layP px k y.path → (cellsOf (genTo (layP px) x.o k)).set (k * 4) (.string s) = cellsOf (genTo (layP px) x.o (k + 1)) from fun s hs => by
            rw [cellsOf_set _ _ _ _ HMK.out, genTo_succ HXK.out, hs])
          clear hown hB hxk hmk
          by_cases hk0 : k = 0
          · subst hk0
            have HS0 := Lib.hid (own_set HOWN.out (by omega) (0 * 4) (.string px))
            have HO0 := Lib.hid (hof.setCell (p := ⟨g, 0 * 4, none⟩) (.inl hg0.1) (.string px))
            have HB0 := Lib.hid (HBB.out.far (p := ⟨g, 0 * 4, none⟩) hgne' (.string px))
            go_wp2_with fail
            refine ⟨⟨0 + 1, rfl, by omega, ?_, HO0.out, HB0.out⟩, by simp only [intOf]; omega⟩
            have h9 := HS0.out
            rw [HNX.out px rfl] at h9
            exact h9
          · have hkb : ((k : Int) == 0) = false := beq_eq_false_iff_ne.2 (by omega)
            by_cases hp0 : str px = []
            · have g1 : px.toList = [] := HEP.out.2 hp0
              have g1' : px.toList.isEmpty = true := by simp [g1]
              have hlay : layP px k y.path = y.path := by unfold layP belowP; rw [if_neg hk0, if_pos hp0]
              have HL := Lib.hid hlay
              clear hp0 hlay
              go_wp2_with fail
              refine ⟨⟨k + 1, by congr 1, by omega, ?_, hof, HBB.out⟩, by simp only [intOf]; omega⟩
              have e9 : cellsOf (genTo (layP px) x.o (k + 1)) = cellsOf (genTo (layP px) x.o k) := by
                rw [← HNX.out y.path HL.out.symm]
                exact List.ext_getElem? fun j => by
                  rw [List.getElem?_set]
                  split
                  · rename_i hj
                    subst hj
                    have h8 := cellsOf_at _ _ _ HMK.out
                    rw [h8]
                    simp [(List.getElem?_eq_some_iff.1 h8).1]
                  · rfl
              rw [e9]
              exact HOWN.out
            · have g1 : ¬ px.toList = [] := fun e => hp0 (HEP.out.1 e)
              have g1' : px.toList.isEmpty = false := by simpa using g1
              have hlay : layP px k y.path = px ++ (⟨#[47]⟩ : ByteArray) ++ y.path := by unfold layP belowP; rw [if_neg hk0, if_neg hp0]
              have HL := Lib.hid hlay
              have a1 : ∀ wx : World, (Op.stringOp .add px ⟨#[47]⟩).run Tryz.prog wx = .ok (.string (px ++ (⟨#[47]⟩ : ByteArray))) wx := fun wx => run_string_add_sum wx _ _ (by show px.size + 1 ≤ _; omega)
              have a2 : ∀ wx : World, (Op.stringOp .add (px ++ (⟨#[47]⟩ : ByteArray)) y.path).run Tryz.prog wx = .ok (.string (px ++ (⟨#[47]⟩ : ByteArray) ++ y.path)) wx := fun wx => run_string_add_sum wx _ _ (by rw [ByteArray.size_append]; show px.size + 1 + y.path.size ≤ _; omega)
              have HS1 := Lib.hid (own_set HOWN.out (by omega) (k * 4) (.string (px ++ (⟨#[47]⟩ : ByteArray) ++ y.path)))
              have HO1 := Lib.hid (hof.setCell (p := ⟨g, k * 4, none⟩) (.inl hg0.1) (.string (px ++ (⟨#[47]⟩ : ByteArray) ++ y.path)))
              have HB1 := Lib.hid (HBB.out.far (p := ⟨g, k * 4, none⟩) hgne' (.string (px ++ (⟨#[47]⟩ : ByteArray) ++ y.path)))
              clear hp0 hlay
              go_wp2_with fail
              go_region
              go_wp2_with fail
              refine ⟨⟨k + 1, by congr 1, by omega, ?_, HO1.out.drew, HB1.out.drew⟩, by simp only [intOf]; omega⟩
              have h9 := HS1.out
              rw [HNX.out _ HL.out.symm] at h9
              exact h9
        · obtain rfl : k = no := by omega
          have e9 := genTo_all (layP px) x.o
          rw [HNO.out] at e9
          rw [e9] at hown
          go_wp2_with fail
          go_ret
          rw [E.out]
          refine ⟨_, rfl, ?_, hof⟩
          rw [show (laidV px x.o).length = k by unfold laidV genAll; rw [List.length_mapIdx, HNO.out]]
          exact hown
    have E := Lib.hid (show agreedV (f + 1) x = [⟨px, 2, ⟨#[]⟩, 0⟩] ++ (belowV x).flatMap (agreedV f) by
      rw [← HPX.out]
      show (if x.a = x.b then _ else if (dirV x.a && dirV x.b) = true then _ else _) = _
      rw [if_neg HAN.out, hda, hdb]; rfl)
    have HFB := Lib.hid (fun y (hy : y ∈ belowV x) => belowV_fine HF.out hda hy)
    have HD := Lib.hid hda
    have HD2 := Lib.hid hdb
    clear hda hdb
    go_enter Tryz.func23, Tryz.ntmps23
    go_wp2_with fail
    refine (HAB.out _ HOW.out false HE.out).mono ?_
    rintro e w1 ⟨rfl, ho⟩
    have hB := HBW.out.off ho (by simp)
    have ho := HOW.out.trans_nil ho
    have hcB := hB.cell
    have hlB := hB.lt
    go_wp2_with fail
    refine (HDA.out _ ho true HD.out).mono ?_
    rintro e w2 ⟨rfl, ho2⟩
    have hB := hB.off ho2 (by simp)
    have ho := ho.trans_nil ho2
    clear hcB hlB ho2
    have hcB := hB.cell
    have hlB := hB.lt
    go_wp2_with fail
    refine (HDB.out _ ho true HD2.out).mono ?_
    rintro e w2 ⟨rfl, ho2⟩
    have hB := hB.off ho2 (by simp)
    have ho := ho.trans_nil ho2
    clear hcB hlB ho2
    have hcB := hB.cell
    have hlB := hB.lt
    have hownl : (w2.alloc (.cells #[.string px, .int .i64 2, .string ⟨#[]⟩, .int .i64 0] 40)).ownsRow w2.heap.size 40 4 (.slice (some ⟨w2.heap.size, 0, none⟩) 1 1) 1 (cellsOf [⟨px, 2, ⟨#[]⟩, 0⟩]) :=
      ⟨rfl, .inr ⟨_, 1, _, rfl, Nat.le_refl _, heap_alloc_new w2 _, by omega, by decide, rfl, rfl⟩⟩
    have hal := (Off.refl [] w2).alloc (.cells #[.string px, .int .i64 2, .string ⟨#[]⟩, .int .i64 0] 40)
    have HWL := Lib.hid hownl
    have HAL2 := Lib.hid hal
    have HHO := Lib.hid ho
    have hcB := (hB.off hal (by simp)).cell
    have hlB := (hB.off hal (by simp)).lt
    clear hownl hal hB ho
    go_wp2_with fail
    refine (HBL.out _ (HHO.out.trans_nil HAL2.out)).mono ?_
    rintro e w3 ⟨pv, cv, rfl, hvw, ho2⟩
    have HVW := Lib.hid hvw
    have HBS := Lib.hid (show w2.heap.size < (w2.alloc (.cells #[.string px, .int .i64 2, .string ⟨#[]⟩, .int .i64 0] 40)).heap.size by simp)
    have HO3 := Lib.hid ((HHO.out.trans_nil HAL2.out).trans_nil ho2)
    have HW3 := Lib.hid (own_keepG HWL.out ho2)
    have hsz3 : w2.heap.size ≤ w3.heap.size := (HAL2.out.trans_nil ho2).size
    have HO23 := Lib.hid (HAL2.out.trans_nil ho2)
    obtain ⟨K, hK⟩ : ∃ K, (belowV x).length = K := ⟨_, rfl⟩
    rw [hK]
    have HK := Lib.hid hK
    have HTL := Lib.hid (show 1 + ((belowV x).flatMap (agreedV f)).length ≤ 1000000000 by have := HLEN.out; rw [E.out, List.length_append] at this; exact this)
    have hKl : K ≤ 3003 := by rw [← hK]; unfold belowV; rw [List.length_map]; exact (namesV_len HF.out).1
    clear hvw ho2 hK hcB hlB
    go_wp2_with fail
    go_loopw [34, 4] (fun y z wr => ∃ i : Nat, y = .int .i64 i ∧ i ≤ K ∧ wr.ownsRow w2.heap.size 40 4 z (1 + (((belowV x).take i).flatMap (agreedV f)).length) (cellsOf ([⟨px, 2, ⟨#[]⟩, 0⟩] ++ ((belowV x).take i).flatMap (agreedV f))) ∧ Off [] w2 wr ∧ Off [w2.heap.size] w3 wr ∧ Hid (∀ b, z.ownBlock = some b → w3.heap.size ≤ b ∨ b = w2.heap.size)) (fun y _ _ => K - (intOf y).toNat)
    case atStart => exact ⟨0, rfl, by omega, by simpa using HW3.out, HO23.out, Off.refl _ _, Lib.hid (fun b hb => by cases hb; exact .inr rfl)⟩
    case round =>
      obtain ⟨i, rfl, hi, hown, hof, hofL, hbz⟩ := hrel
      have hvs := Lib.hid (HVW.out.offL hofL HBS.out)
      by_cases hiK : i < K
      · have hil : i < (belowV x).length := by rw [HK.out]; exact hiK
        have hyi := List.getElem?_eq_getElem hil
        have hyf := HFB.out _ (List.getElem_mem hil)
        have hys := belowV_small (List.getElem_mem hil)
        generalize (belowV x)[i] = y at *
        obtain ⟨q, vo, va, vb, rfl, hq, hv⟩ := hvs.out i y hyi
        have c0 := hv.path
        have c1 := hv.o
        have c2 := hv.a
        have c3 := hv.b
        have HSO := Lib.hid hv.so
        have HSA := Lib.hid hv.sa
        have HSB := Lib.hid hv.sb
        obtain ⟨qo, do_, rfl, -⟩ := hv.so
        obtain ⟨qa, da, rfl, -⟩ := hv.sa
        obtain ⟨qb, db, rfl, -⟩ := hv.sb
        have HFT := Lib.hid (flatN_take (f := agreedV f) hyi)
        have hle := flatN_le (f := agreedV f) (belowV x) (i + 1)
        have hle2 : 1 + (((belowV x).take i).flatMap (agreedV f)).length + (agreedV f y).length ≤ 1000000000 := by
          rw [flatN_take hyi, List.length_append] at hle
          have := HTL.out
          omega
        have hya : y.a.length < f := by have := hyf.2; have := HNA.out; omega
        have HYF := Lib.hid hyf.1
        have HYS := Lib.hid hys
        obtain ⟨A1, hA1⟩ : ∃ A1, y.o.length = A1 := ⟨_, rfl⟩
        obtain ⟨A2, hA2⟩ : ∃ A2, y.a.length = A2 := ⟨_, rfl⟩
        obtain ⟨A3, hA3⟩ : ∃ A3, y.b.length = A3 := ⟨_, rfl⟩
        rw [hA1] at c1 HSO
        rw [hA2] at c2 HSA
        rw [hA3] at c3 HSB
        have HOF := Lib.hid hof
        have HOWN := Lib.hid hown
        clear hv hyi hyf hys hle hA1 hA3 hown hof
        go_wp2_with fail
        have HAL := Lib.hid (HOF.out.alloc (.cells #[.string y.path, .slice qo A1 do_, .slice qa A2 da, .slice qb A3 db] 50))
        refine (HIH.out _ y (.slice qo A1 do_) (.slice qa A2 da) (.slice qb A3 db) _ hya (HSO.out.off ((Off.refl _ _).alloc _)) (HSA.out.off ((Off.refl _ _).alloc _)) (HSB.out.off ((Off.refl _ _).alloc _)) HYF.out HYS.out (by omega) (hT.off (HHO.out.trans_nil HAL.out))).mono ?_
        rintro e w5 ⟨rv, rfl, hrv, ho5⟩
        have hch5 := ((Off.refl [] wr).alloc (.cells #[.string y.path, .slice qo A1 do_, .slice qa A2 da, .slice qb A3 db] 50)).trans_nil ho5
        have hown5 := own_keepG HOWN.out hch5
        have hof5 := HAL.out.trans_nil ho5
        have hsz5 := hof5.size
        have HFL5 := Lib.hid (hofL.trans_nil hch5)
        have hsz35 := HFL5.out.size
        obtain ⟨M, hM⟩ : ∃ M, (agreedV f y).length = M := ⟨_, rfl⟩
        rw [hM] at hrv hle2
        have HM := Lib.hid hM
        obtain ⟨FL, hFL⟩ : ∃ FL, 1 + (((belowV x).take i).flatMap (agreedV f)).length = FL := ⟨_, rfl⟩
        rw [hFL] at hown5 hle2
        have HFL := Lib.hid hFL
        clear c0 c1 c2 c3 ho5 hch5 hM hFL HOWN hvs hofL
        rcases hrv.2 with ⟨rfl, hM0⟩ | ⟨g, cap, cur, rfl, -⟩
        · have HY0 := Lib.hid (show agreedV f y = [] from List.length_eq_zero_iff.1 (by rw [HM.out]; exact hM0))
          clear hM0 hrv
          go_wp2_with (at_builtin; refine wpList_append_own_none rfl _ _ 22 rfl w2.heap.size 40 i0 4 Tryz.underlying22 hi0 _ _ _ rfl hown5 rfl ?_)
          refine ⟨⟨i + 1, by congr 1, by omega, ?_, hof5, HFL5.out, hbz⟩, by simp only [intOf]; omega⟩
          rw [HFT.out, HY0.out, List.append_nil, HFL.out]
          exact hown5
        · by_cases hM0 : M = 0
          · subst hM0
            have HY0 := Lib.hid (show agreedV f y = [] from List.length_eq_zero_iff.1 HM.out)
            have hrz := fun ty => run_append_zero (P := Tryz.prog) w2.heap.size 22 ty 40 i0 4 Tryz.underlying22 hi0 _ _ _ hown5 ⟨g, 0, none⟩ cap
            clear hrv
            go_wp2_with (at_builtin; refine Lib.wpList_append_run _ rfl _ _ _ _ rfl _ _ rfl rfl _ _ (hrz _) ?_)
            refine ⟨⟨i + 1, by congr 1, by omega, ?_, hof5, HFL5.out, hbz⟩, by simp only [intOf]; omega⟩
            rw [HFT.out, HY0.out, List.append_nil, HFL.out]
            exact hown5
          · have HC := Lib.hid (fun (j : Nat) (u : Value) (hj : (cellsOf (agreedV f y))[j]? = some u) => hrv.cells (g := g) rfl j u hj)
            have HO := Lib.hid (cellsOf_one (t := agreedV f y))
            have HCL := Lib.hid (show (cellsOf (agreedV f y)).length = M * 4 by rw [cellsOf_len, HM.out])
            clear hrv
            go_wp2_with (at_builtin; refine wpList_append_lies _ rfl _ _ 22 rfl w2.heap.size 40 i0 node0.val 4 48 Tryz.underlying22 hi0 hz0 hz1 hz2 rfl (by decide) _ _ _ rfl hown5 ⟨g, 0, none⟩ M cap (cellsOf (agreedV f y)) rfl HCL.out HC.out HO.out (by omega) (by unfold maxLen; omega) (by omega) hsz5 w5.heap.size rfl ?_; intro g6 cap6 W6 hown' hgrow hat hlt6)
            have HB6 := Lib.hid (show ∀ b, (Value.slice (some ⟨g6, 0, none⟩) (FL + M) cap6).ownBlock = some b → w3.heap.size ≤ b ∨ b = w2.heap.size from fun b hb => by
              cases hb
              rcases hat with h | h
              · exact hbz.out _ h
              · subst h; exact .inl hsz35)
            have HF6 := Lib.hid (HFL5.out.grown hgrow (fun k hk => by
              rcases hbz.out k hk with h | h
              · exact .inl h
              · exact .inr (by rw [h]; simp)))
            refine ⟨⟨i + 1, by congr 1, by omega, ?_, own_grown hof5 hown5 hgrow, HF6.out, HB6⟩, by simp only [intOf]; omega⟩
            rw [HFT.out, List.length_append, ← List.append_assoc, cellsOf_append, ← Nat.add_assoc, HFL.out, HM.out]
            exact hown'
      · obtain rfl : i = K := by omega
        have e0 : (belowV x).take i = belowV x := List.take_of_length_le (by rw [HK.out]; exact Nat.le_refl _)
        rw [e0, ← E.out] at hown
        go_wp2_with fail
        go_ret
        refine ⟨_, rfl, ?_, HHO.out.trans_nil hof⟩
        rw [E.out, List.length_append]
        rw [E.out] at hown
        exact own_base hown HHO.out.size
theorem agreed_any : ∀ (f : Nat) (B : Nat) (x : Vw) (vo va vb : Value) (w : World), x.a.length < f → SlN B w vo x.o → SlN B w va x.a → SlN B w vb x.b → Fine x → Small x → (agreedV f x).length ≤ 1000000000 → Tabs w →
    Calls Tryz.prog 23 #[.agg #[.string x.path, vo, va, vb]] w (OwnT (agreedV f x) w)
  | 0, _, _, _, _, _, _, hlt, _, _, _, _, _, _, _ => absurd hlt (by omega)
  | f + 1, B, x, vo, va, vb, w, h1, h2, h3, h4, h5, h6, h7, h8 => agreed_step f (agreed_any f) B x vo va vb w h1 h2 h3 h4 h5 h6 h7 h8
end Go.Proofs.YtpaeihdkggbeoaaGreatDoor
