/- recon's items of a view: the walk. Conditions: what each contract states. -/
import Derived.Test.YtpaeihdkggbeoaaGreatDoorBelow
namespace Go.Proofs.YtpaeihdkggbeoaaGreatDoor
open Go.RowKit Go.Op

structure It where
  path : ByteArray
  what : Int
def itemsV : Nat → Vw → List It
  | 0, _ => []
  | f + 1, w =>
    if w.a = w.b then (if w.o = w.a then [] else [⟨w.path, 1⟩])
    else if (dirV w.a && dirV w.b) = true then (belowV w).flatMap (itemsV f)
    else if w.o = w.b then [⟨w.path, 2⟩] else if w.o = w.a then [⟨w.path, 3⟩] else [⟨w.path, 4⟩]
def itCells (l : List It) : List Value := l.flatMap fun i => [.string i.path, .int .i64 i.what]
theorem itCells_len (l : List It) : (itCells l).length = l.length * 2 := by
  unfold itCells; rw [List.length_flatMap]; induction l with | nil => rfl | cons n t ih => simp at ih ⊢; omega
theorem itCells_append (a b : List It) : itCells (a ++ b) = itCells a ++ itCells b := by unfold itCells; rw [List.flatMap_append]
theorem itCells_one {l : List It} : ∀ u ∈ itCells l, u.oneCell' = true := by
  intro u hu
  unfold itCells at hu
  rw [List.mem_flatMap] at hu
  obtain ⟨n, _, hn⟩ := hu
  simp only [List.mem_cons, List.not_mem_nil, or_false] at hn
  rcases hn with rfl | rfl <;> rfl
theorem infoItem : (Tryz.prog.info? 42).map (fun i => (i.zero, i.size, i.bytes)) = some (some (.agg #[.string ⟨#[]⟩, .int .i64 0]), 2, 24) := by kernel_rfl
theorem own_keepG {W W' : World} {base e sz n : Nat} {v : Value} {xs : List Value} (h : W.ownsRow base e sz v n xs) (ho : Off [] W W') : W'.ownsRow base e sz v n xs := by
  refine ⟨h.1, ?_⟩
  rcases h.2 with h | ⟨g, cap, cur, hv, hb, hh, hr⟩
  · exact .inl h
  · exact .inr ⟨g, cap, cur, hv, hb, (ho.block g (Array.getElem?_eq_some_iff.1 hh).1 (by simp)).trans hh, hr⟩
def ItemsP (L : List It) (w : World) (e : Ending) (w' : World) : Prop :=
  ∃ v, e = .returned v ∧ w'.ownsRow w.heap.size 42 2 v L.length (itCells L) ∧ Off [] w w'
theorem ItemsP.nil {w w' : World} (ho : Off [] w w') : ItemsP [] w (.returned (.slice none 0 0)) w' := ⟨_, rfl, ⟨rfl, .inl ⟨rfl, rfl⟩⟩, ho⟩
theorem ItemsP.one {w w' : World} {p : ByteArray} {k : Int} (ho : Off [] w w') : ItemsP [⟨p, k⟩] w (.returned (.slice (some ⟨w'.heap.size, 0, none⟩) 1 1)) (w'.alloc (.cells #[.string p, .int .i64 k] 42)) :=
  ⟨_, rfl, ⟨rfl, .inr ⟨w'.heap.size, 1, _, rfl, ho.size, heap_alloc_new w' _, Nat.le_refl _, by decide, rfl, rfl⟩⟩, ho.alloc _⟩
theorem Fine.sub {x : Vw} (h : Fine x) (ha : x.a ≠ []) {s : ByteArray} (hs : s ∈ namesV x) : Fine (subV x s) ∧ (subV x s).a.length < x.a.length := by
  have hn := namesV_mem hs
  have hz := namesV_size hs
  have hne : str s ≠ [] := okName_ne hn
  have h1 := partV_short (v := x.a) hne
  have h2 : 0 < x.a.length := List.length_pos_iff.2 ha
  have h3 := belowP_size x.path s
  have h4 := h.path
  refine ⟨⟨partV_fits, partV_fits, partV_fits, partV_len, partV_len, partV_len, ?_⟩, ?_⟩
  · show (belowP x.path s).size + 65 * (partV x.a s).length ≤ 200000
    omega
  · show (partV x.a s).length < x.a.length
    omega
theorem belowV_fine {x : Vw} (h : Fine x) (ha : dirV x.a = true) {y : Vw} (hy : y ∈ belowV x) : Fine y ∧ y.a.length < x.a.length := by
  unfold belowV at hy
  obtain ⟨s, hs, rfl⟩ := List.mem_map.1 hy
  exact h.sub (fun e => by rw [e] at ha; cases ha) hs
theorem flat_take {f : Vw → List It} {L : List Vw} {i : Nat} {y : Vw} (h : L[i]? = some y) : (L.take (i + 1)).flatMap f = (L.take i).flatMap f ++ f y := by
  rw [take_get h, List.flatMap_append]; simp
theorem flat_le {f : Vw → List It} (L : List Vw) (i : Nat) : ((L.take i).flatMap f).length ≤ (L.flatMap f).length := by
  conv => rhs; rw [← List.take_append_drop i L]
  rw [List.flatMap_append, List.length_append]; omega
set_option maxRecDepth 100000 in
set_option maxHeartbeats 8000000 in
theorem items_any : ∀ (f : Nat) (B : Nat) (x : Vw) (vo va vb : Value) (w : World), x.a.length < f → SlN B w vo x.o → SlN B w va x.a → SlN B w vb x.b → Fine x → (itemsV f x).length ≤ 1000000000 → Tabs w →
    Calls Tryz.prog 20 #[.agg #[.string x.path, vo, va, vb]] w (ItemsP (itemsV f x) w)
  | 0, _, x, vo, va, vb, w, hlt, _, _, _, _, _, _ => absurd hlt (by omega)
  | f + 1, B, x, vo, va, vb, w, hlt, so, sa, sb, hF, hlen, hT => by
    have HIH := Lib.hid (fun (B : Nat) (y : Vw) (vo va vb : Value) (W : World) (h1 : y.a.length < f) (h2 : SlN B W vo y.o) (h3 : SlN B W va y.a) (h4 : SlN B W vb y.b) (h5 : Fine y) (h6 : (itemsV f y).length ≤ 1000000000) (h7 : Tabs W) => items_any f B y vo va vb W h1 h2 h3 h4 h5 h6 h7)
    obtain ⟨i0, hi0, hz0, hz1, hz2⟩ := info_parts infoItem
    have HBL := Lib.hid (fun (W : World) (ho : Off [] w W) => below_any x vo va vb W (so.off ho) (sa.off ho) (sb.off ho) hF (hT.off ho))
    have hlo := hF.lo
    have hla := hF.la
    have hlb := hF.lb
    have HF := Lib.hid hF
    obtain ⟨po, co, rfl, ro, lo, mo, no_, -, -⟩ := so
    obtain ⟨pa, ca, rfl, ra, la, ma, na, -, -⟩ := sa
    obtain ⟨pb, cb, rfl, rb, lb, mb, nb, -, -⟩ := sb
    obtain ⟨px, hpx⟩ : ∃ px, x.path = px := ⟨_, rfl⟩
    obtain ⟨no, hno⟩ : ∃ k, x.o.length = k := ⟨_, rfl⟩
    obtain ⟨nna, hna⟩ : ∃ k, x.a.length = k := ⟨_, rfl⟩
    obtain ⟨nnb, hnb⟩ : ∃ k, x.b.length = k := ⟨_, rfl⟩
    rw [hno] at lo hlo
    rw [hna] at la hla hlt
    rw [hnb] at lb hlb
    rw [hpx, hno, hna, hnb] at HBL ⊢
    have HAB := Lib.hid (fun (W : World) (ho : Off [] w W) (b : Bool) (hb : decide (x.a = x.b) = b) => same_v x.a x.b pa pb nna nnb ca cb W hna hnb (by omega) (by omega) (ra.off ho) (rb.off ho) b hb)
    have HOA := Lib.hid (fun (W : World) (ho : Off [] w W) (b : Bool) (hb : decide (x.o = x.a) = b) => same_v x.o x.a po pa no nna co ca W hno hna (by omega) (by omega) (ro.off ho) (ra.off ho) b hb)
    have HOB := Lib.hid (fun (W : World) (ho : Off [] w W) (b : Bool) (hb : decide (x.o = x.b) = b) => same_v x.o x.b po pb no nnb co cb W hno hnb (by omega) (by omega) (ro.off ho) (rb.off ho) b hb)
    have HDA := Lib.hid (fun (W : World) (ho : Off [] w W) (b : Bool) (hb : dirV x.a = b) => recdir_any pa x.a nna ca W (ra.off ho) hna b hb)
    have HDB := Lib.hid (fun (W : World) (ho : Off [] w W) (b : Bool) (hb : dirV x.b = b) => recdir_any pb x.b nnb cb W (rb.off ho) hnb b hb)
    have HPX := Lib.hid hpx
    have HNA := Lib.hid hna
    have HLEN := Lib.hid hlen
    have HBW := Lib.hid (Blk.new w 50 #[.string px, .slice po no co, .slice pa nna ca, .slice pb nnb cb])
    have HOW := Lib.hid ((Off.refl [] w).alloc (.cells #[.string px, .slice po no co, .slice pa nna ca, .slice pb nnb cb] 50))
    clear hF ro ra rb lo la lb mo ma mb no_ na nb hpx hno hna hnb hlen
    by_cases hab : x.a = x.b
    · have HE := Lib.hid (decide_eq_true hab)
      by_cases hoa : x.o = x.a
      · have E := Lib.hid (show itemsV (f + 1) x = [] by unfold itemsV; rw [if_pos hab, if_pos hoa])
        have HE2 := Lib.hid (decide_eq_true hoa)
        clear hab hoa
        go_enter Tryz.func20, Tryz.ntmps20
        go_wp2_with fail
        refine (HAB.out _ HOW.out true HE.out).mono ?_
        rintro e w1 ⟨rfl, ho⟩
        have hB := HBW.out.off ho (by simp)
        have ho := HOW.out.trans_nil ho
        have hcB := hB.cell
        have hlB := hB.lt
        go_wp2_with fail
        refine (HOA.out _ ho true HE2.out).mono ?_
        rintro e w2 ⟨rfl, ho2⟩
        go_wp2_with fail
        go_ret
        rw [E.out]; exact ItemsP.nil (ho.trans_nil ho2)
      · have E := Lib.hid (show itemsV (f + 1) x = [⟨x.path, 1⟩] by unfold itemsV; rw [if_pos hab, if_neg hoa])
        have HE2 := Lib.hid (decide_eq_false hoa)
        clear hab hoa
        go_enter Tryz.func20, Tryz.ntmps20
        go_wp2_with fail
        refine (HAB.out _ HOW.out true HE.out).mono ?_
        rintro e w1 ⟨rfl, ho⟩
        have hB := HBW.out.off ho (by simp)
        have ho := HOW.out.trans_nil ho
        have hcB := hB.cell
        have hlB := hB.lt
        go_wp2_with fail
        refine (HOA.out _ ho false HE2.out).mono ?_
        rintro e w2 ⟨rfl, ho2⟩
        have hB := hB.off ho2 (by simp)
        have ho := ho.trans_nil ho2
        clear hcB hlB ho2
        have hcB := hB.cell
        have hlB := hB.lt
        go_wp2_with fail
        go_ret
        rw [E.out, HPX.out]; exact ItemsP.one ho
    have HE := Lib.hid (decide_eq_false hab)
    have HAN := Lib.hid hab
    clear hab
    cases hda : dirV x.a
    · have HN := Lib.hid (show itemsV (f + 1) x = if x.o = x.b then [⟨x.path, 2⟩] else if x.o = x.a then [⟨x.path, 3⟩] else [⟨x.path, 4⟩] by
        show (if x.a = x.b then _ else if (dirV x.a && dirV x.b) = true then _ else _) = _
        rw [if_neg HAN.out, hda, if_neg (by simp)])
      have HD := Lib.hid hda
      clear hda
      by_cases hob : x.o = x.b
      · have E := Lib.hid (show itemsV (f + 1) x = [⟨x.path, 2⟩] by rw [HN.out, if_pos hob])
        have HE1 := Lib.hid (decide_eq_true hob)
        clear hob
        go_enter Tryz.func20, Tryz.ntmps20
        go_wp2_with fail
        refine (HAB.out _ HOW.out false HE.out).mono ?_
        rintro e w1 ⟨rfl, ho⟩
        have hB := HBW.out.off ho (by simp)
        have ho := HOW.out.trans_nil ho
        have hcB := hB.cell
        have hlB := hB.lt
        go_wp2_with fail
        refine (HDA.out _ ho false HD.out).mono ?_
        rintro e w2 ⟨rfl, ho2⟩
        have hB := hB.off ho2 (by simp)
        have ho := ho.trans_nil ho2
        clear hcB hlB ho2
        have hcB := hB.cell
        have hlB := hB.lt
        go_wp2_with fail
        refine (HOB.out _ ho true HE1.out).mono ?_
        rintro e w3 ⟨rfl, ho2⟩
        have hB := hB.off ho2 (by simp)
        have ho := ho.trans_nil ho2
        clear hcB hlB ho2
        have hcB := hB.cell
        have hlB := hB.lt
        go_wp2_with fail
        go_ret
        rw [E.out, HPX.out]; exact ItemsP.one ho
      have HE1 := Lib.hid (decide_eq_false hob)
      by_cases hoa : x.o = x.a
      · have E := Lib.hid (show itemsV (f + 1) x = [⟨x.path, 3⟩] by rw [HN.out, if_neg hob, if_pos hoa])
        have HE2 := Lib.hid (decide_eq_true hoa)
        clear hob hoa
        go_enter Tryz.func20, Tryz.ntmps20
        go_wp2_with fail
        refine (HAB.out _ HOW.out false HE.out).mono ?_
        rintro e w1 ⟨rfl, ho⟩
        have hB := HBW.out.off ho (by simp)
        have ho := HOW.out.trans_nil ho
        have hcB := hB.cell
        have hlB := hB.lt
        go_wp2_with fail
        refine (HDA.out _ ho false HD.out).mono ?_
        rintro e w2 ⟨rfl, ho2⟩
        have hB := hB.off ho2 (by simp)
        have ho := ho.trans_nil ho2
        clear hcB hlB ho2
        have hcB := hB.cell
        have hlB := hB.lt
        go_wp2_with fail
        refine (HOB.out _ ho false HE1.out).mono ?_
        rintro e w3 ⟨rfl, ho2⟩
        have hB := hB.off ho2 (by simp)
        have ho := ho.trans_nil ho2
        clear hcB hlB ho2
        have hcB := hB.cell
        have hlB := hB.lt
        go_wp2_with fail
        refine (HOA.out _ ho true HE2.out).mono ?_
        rintro e w4 ⟨rfl, ho2⟩
        have hB := hB.off ho2 (by simp)
        have ho := ho.trans_nil ho2
        clear hcB hlB ho2
        have hcB := hB.cell
        have hlB := hB.lt
        go_wp2_with fail
        go_ret
        rw [E.out, HPX.out]; exact ItemsP.one ho
      · have E := Lib.hid (show itemsV (f + 1) x = [⟨x.path, 4⟩] by rw [HN.out, if_neg hob, if_neg hoa])
        have HE2 := Lib.hid (decide_eq_false hoa)
        clear hob hoa
        go_enter Tryz.func20, Tryz.ntmps20
        go_wp2_with fail
        refine (HAB.out _ HOW.out false HE.out).mono ?_
        rintro e w1 ⟨rfl, ho⟩
        have hB := HBW.out.off ho (by simp)
        have ho := HOW.out.trans_nil ho
        have hcB := hB.cell
        have hlB := hB.lt
        go_wp2_with fail
        refine (HDA.out _ ho false HD.out).mono ?_
        rintro e w2 ⟨rfl, ho2⟩
        have hB := hB.off ho2 (by simp)
        have ho := ho.trans_nil ho2
        clear hcB hlB ho2
        have hcB := hB.cell
        have hlB := hB.lt
        go_wp2_with fail
        refine (HOB.out _ ho false HE1.out).mono ?_
        rintro e w3 ⟨rfl, ho2⟩
        have hB := hB.off ho2 (by simp)
        have ho := ho.trans_nil ho2
        clear hcB hlB ho2
        have hcB := hB.cell
        have hlB := hB.lt
        go_wp2_with fail
        refine (HOA.out _ ho false HE2.out).mono ?_
        rintro e w4 ⟨rfl, ho2⟩
        have hB := hB.off ho2 (by simp)
        have ho := ho.trans_nil ho2
        clear hcB hlB ho2
        have hcB := hB.cell
        have hlB := hB.lt
        go_wp2_with fail
        go_ret
        rw [E.out, HPX.out]; exact ItemsP.one ho
    cases hdb : dirV x.b
    · have HN := Lib.hid (show itemsV (f + 1) x = if x.o = x.b then [⟨x.path, 2⟩] else if x.o = x.a then [⟨x.path, 3⟩] else [⟨x.path, 4⟩] by
        show (if x.a = x.b then _ else if (dirV x.a && dirV x.b) = true then _ else _) = _
        rw [if_neg HAN.out, hda, hdb, if_neg (by simp)])
      have HD := Lib.hid hda
      have HD2 := Lib.hid hdb
      clear hda hdb
      by_cases hob : x.o = x.b
      · have E := Lib.hid (show itemsV (f + 1) x = [⟨x.path, 2⟩] by rw [HN.out, if_pos hob])
        have HE1 := Lib.hid (decide_eq_true hob)
        clear hob
        go_enter Tryz.func20, Tryz.ntmps20
        go_wp2_with fail
        refine (HAB.out _ HOW.out false HE.out).mono ?_
        rintro e w1 ⟨rfl, ho⟩
        have hB := HBW.out.off ho (by simp)
        have ho := HOW.out.trans_nil ho
        have hcB := hB.cell
        have hlB := hB.lt
        go_wp2_with fail
        refine (HDA.out _ ho true HD.out).mono ?_
        rintro e w2 ⟨rfl, ho2⟩
        have hB := hB.off ho2 (by simp)
        have ho := ho.trans_nil ho2
        clear hcB hlB ho2
        have hcB := hB.cell
        have hlB := hB.lt
        go_wp2_with fail
        refine (HDB.out _ ho false HD2.out).mono ?_
        rintro e w2 ⟨rfl, ho2⟩
        have hB := hB.off ho2 (by simp)
        have ho := ho.trans_nil ho2
        clear hcB hlB ho2
        have hcB := hB.cell
        have hlB := hB.lt
        go_wp2_with fail
        refine (HOB.out _ ho true HE1.out).mono ?_
        rintro e w3 ⟨rfl, ho2⟩
        have hB := hB.off ho2 (by simp)
        have ho := ho.trans_nil ho2
        clear hcB hlB ho2
        have hcB := hB.cell
        have hlB := hB.lt
        go_wp2_with fail
        go_ret
        rw [E.out, HPX.out]; exact ItemsP.one ho
      have HE1 := Lib.hid (decide_eq_false hob)
      by_cases hoa : x.o = x.a
      · have E := Lib.hid (show itemsV (f + 1) x = [⟨x.path, 3⟩] by rw [HN.out, if_neg hob, if_pos hoa])
        have HE2 := Lib.hid (decide_eq_true hoa)
        clear hob hoa
        go_enter Tryz.func20, Tryz.ntmps20
        go_wp2_with fail
        refine (HAB.out _ HOW.out false HE.out).mono ?_
        rintro e w1 ⟨rfl, ho⟩
        have hB := HBW.out.off ho (by simp)
        have ho := HOW.out.trans_nil ho
        have hcB := hB.cell
        have hlB := hB.lt
        go_wp2_with fail
        refine (HDA.out _ ho true HD.out).mono ?_
        rintro e w2 ⟨rfl, ho2⟩
        have hB := hB.off ho2 (by simp)
        have ho := ho.trans_nil ho2
        clear hcB hlB ho2
        have hcB := hB.cell
        have hlB := hB.lt
        go_wp2_with fail
        refine (HDB.out _ ho false HD2.out).mono ?_
        rintro e w2 ⟨rfl, ho2⟩
        have hB := hB.off ho2 (by simp)
        have ho := ho.trans_nil ho2
        clear hcB hlB ho2
        have hcB := hB.cell
        have hlB := hB.lt
        go_wp2_with fail
        refine (HOB.out _ ho false HE1.out).mono ?_
        rintro e w3 ⟨rfl, ho2⟩
        have hB := hB.off ho2 (by simp)
        have ho := ho.trans_nil ho2
        clear hcB hlB ho2
        have hcB := hB.cell
        have hlB := hB.lt
        go_wp2_with fail
        refine (HOA.out _ ho true HE2.out).mono ?_
        rintro e w4 ⟨rfl, ho2⟩
        have hB := hB.off ho2 (by simp)
        have ho := ho.trans_nil ho2
        clear hcB hlB ho2
        have hcB := hB.cell
        have hlB := hB.lt
        go_wp2_with fail
        go_ret
        rw [E.out, HPX.out]; exact ItemsP.one ho
      · have E := Lib.hid (show itemsV (f + 1) x = [⟨x.path, 4⟩] by rw [HN.out, if_neg hob, if_neg hoa])
        have HE2 := Lib.hid (decide_eq_false hoa)
        clear hob hoa
        go_enter Tryz.func20, Tryz.ntmps20
        go_wp2_with fail
        refine (HAB.out _ HOW.out false HE.out).mono ?_
        rintro e w1 ⟨rfl, ho⟩
        have hB := HBW.out.off ho (by simp)
        have ho := HOW.out.trans_nil ho
        have hcB := hB.cell
        have hlB := hB.lt
        go_wp2_with fail
        refine (HDA.out _ ho true HD.out).mono ?_
        rintro e w2 ⟨rfl, ho2⟩
        have hB := hB.off ho2 (by simp)
        have ho := ho.trans_nil ho2
        clear hcB hlB ho2
        have hcB := hB.cell
        have hlB := hB.lt
        go_wp2_with fail
        refine (HDB.out _ ho false HD2.out).mono ?_
        rintro e w2 ⟨rfl, ho2⟩
        have hB := hB.off ho2 (by simp)
        have ho := ho.trans_nil ho2
        clear hcB hlB ho2
        have hcB := hB.cell
        have hlB := hB.lt
        go_wp2_with fail
        refine (HOB.out _ ho false HE1.out).mono ?_
        rintro e w3 ⟨rfl, ho2⟩
        have hB := hB.off ho2 (by simp)
        have ho := ho.trans_nil ho2
        clear hcB hlB ho2
        have hcB := hB.cell
        have hlB := hB.lt
        go_wp2_with fail
        refine (HOA.out _ ho false HE2.out).mono ?_
        rintro e w4 ⟨rfl, ho2⟩
        have hB := hB.off ho2 (by simp)
        have ho := ho.trans_nil ho2
        clear hcB hlB ho2
        have hcB := hB.cell
        have hlB := hB.lt
        go_wp2_with fail
        go_ret
        rw [E.out, HPX.out]; exact ItemsP.one ho
    have E := Lib.hid (show itemsV (f + 1) x = (belowV x).flatMap (itemsV f) by
      show (if x.a = x.b then _ else if (dirV x.a && dirV x.b) = true then _ else _) = _
      rw [if_neg HAN.out, hda, hdb]; rfl)
    have HFB := Lib.hid (fun y (hy : y ∈ belowV x) => belowV_fine HF.out hda hy)
    have HD := Lib.hid hda
    have HD2 := Lib.hid hdb
    clear hda hdb
    go_enter Tryz.func20, Tryz.ntmps20
    go_wp2_with fail
    refine (HAB.out _ HOW.out false HE.out).mono ?_
    rintro e w1 ⟨rfl, ho⟩
    have hB := HBW.out.off ho (by simp)
    have ho := HOW.out.trans_nil ho
    have hcB := hB.cell
    have hlB := hB.lt
    go_wp2_with fail
    refine (HDA.out _ ho true HD.out).mono ?_
    rintro e w2 ⟨rfl, ho2⟩
    have hB := hB.off ho2 (by simp)
    have ho := ho.trans_nil ho2
    clear hcB hlB ho2
    have hcB := hB.cell
    have hlB := hB.lt
    go_wp2_with fail
    refine (HDB.out _ ho true HD2.out).mono ?_
    rintro e w2 ⟨rfl, ho2⟩
    have hB := hB.off ho2 (by simp)
    have ho := ho.trans_nil ho2
    clear hcB hlB ho2
    have hcB := hB.cell
    have hlB := hB.lt
    go_wp2_with fail
    refine (HBL.out _ ho).mono ?_
    rintro e w3 ⟨pv, cv, rfl, hvw, ho2⟩
    have HVW := Lib.hid hvw
    have HO3 := Lib.hid (ho.trans_nil ho2)
    obtain ⟨K, hK⟩ : ∃ K, (belowV x).length = K := ⟨_, rfl⟩
    rw [hK]
    have HK := Lib.hid hK
    have HTL := Lib.hid (show ((belowV x).flatMap (itemsV f)).length ≤ 1000000000 by rw [← E.out]; exact HLEN.out)
    have hKl : K ≤ 3003 := by rw [← hK]; unfold belowV; rw [List.length_map]; exact (namesV_len HF.out).1
    clear hvw ho ho2 hK hcB hlB hB
    go_wp2_with fail
    go_loopw [30, 4] (fun y z wr => ∃ i : Nat, y = .int .i64 i ∧ i ≤ K ∧ wr.ownsRow w3.heap.size 42 2 z (((belowV x).take i).flatMap (itemsV f)).length (itCells (((belowV x).take i).flatMap (itemsV f))) ∧ Off [] w3 wr) (fun y _ _ => K - (intOf y).toNat)
    case atStart => exact ⟨0, rfl, by omega, ⟨rfl, .inl ⟨rfl, rfl⟩⟩, Off.refl _ _⟩
    case round =>
      obtain ⟨i, rfl, hi, hown, hof⟩ := hrel
      by_cases hiK : i < K
      · have hil : i < (belowV x).length := by rw [HK.out]; exact hiK
        have hyi := List.getElem?_eq_getElem hil
        have hyf := HFB.out _ (List.getElem_mem hil)
        generalize (belowV x)[i] = y at *
        obtain ⟨q, vo, va, vb, rfl, hq, hv⟩ := HVW.out.off hof i y hyi
        have c0 := hv.path
        have c1 := hv.o
        have c2 := hv.a
        have c3 := hv.b
        have HSO := Lib.hid hv.so
        have HSA := Lib.hid hv.sa
        have HSB := Lib.hid hv.sb
        obtain ⟨qo, do_, rfl, -⟩ := hv.so
        obtain ⟨qa, da, rfl, -⟩ := hv.sa
        obtain ⟨qb, db, rfl, -⟩ := hv.sb
        have HFT := Lib.hid (flat_take (f := itemsV f) hyi)
        have hle := flat_le (f := itemsV f) (belowV x) (i + 1)
        have hle2 : (((belowV x).take i).flatMap (itemsV f)).length + (itemsV f y).length ≤ 1000000000 := by
          rw [flat_take hyi, List.length_append] at hle
          have := HTL.out
          omega
        have hya : y.a.length < f := by have := hyf.2; have := HNA.out; omega
        have HYF := Lib.hid hyf.1
        obtain ⟨A1, hA1⟩ : ∃ A1, y.o.length = A1 := ⟨_, rfl⟩
        obtain ⟨A2, hA2⟩ : ∃ A2, y.a.length = A2 := ⟨_, rfl⟩
        obtain ⟨A3, hA3⟩ : ∃ A3, y.b.length = A3 := ⟨_, rfl⟩
        rw [hA1] at c1 HSO
        rw [hA2] at c2 HSA
        rw [hA3] at c3 HSB
        have HOF := Lib.hid hof
        have HOWN := Lib.hid hown
        clear hv hyi hyf hle hA1 hA3 hown hof
        go_wp2_with fail
        have HAL := Lib.hid (HOF.out.alloc (.cells #[.string y.path, .slice qo A1 do_, .slice qa A2 da, .slice qb A3 db] 50))
        refine (HIH.out _ y (.slice qo A1 do_) (.slice qa A2 da) (.slice qb A3 db) _ hya (HSO.out.off ((Off.refl _ _).alloc _)) (HSA.out.off ((Off.refl _ _).alloc _)) (HSB.out.off ((Off.refl _ _).alloc _)) HYF.out (by omega) (hT.off (HO3.out.trans_nil HAL.out))).mono ?_
        rintro e w5 ⟨rv, rfl, hrv, ho5⟩
        have hown5 := own_keepG HOWN.out (((Off.refl [] wr).alloc (.cells #[.string y.path, .slice qo A1 do_, .slice qa A2 da, .slice qb A3 db] 50)).trans_nil ho5)
        have hof5 := HAL.out.trans_nil ho5
        have hsz5 := hof5.size
        obtain ⟨M, hM⟩ : ∃ M, (itemsV f y).length = M := ⟨_, rfl⟩
        rw [hM] at hrv hle2
        have HM := Lib.hid hM
        obtain ⟨FL, hFL⟩ : ∃ FL, (((belowV x).take i).flatMap (itemsV f)).length = FL := ⟨_, rfl⟩
        rw [hFL] at hown5 hle2
        have HFL := Lib.hid hFL
        clear c0 c1 c2 c3 ho5 hM hFL HOWN
        rcases hrv.2 with ⟨rfl, hM0⟩ | ⟨g, cap, cur, rfl, -⟩
        · have HY0 := Lib.hid (show itemsV f y = [] from List.length_eq_zero_iff.1 (by rw [HM.out]; exact hM0))
          clear hM0 hrv
          go_wp2_with (at_builtin; refine wpList_append_own_none rfl _ _ 27 rfl w3.heap.size 42 i0 2 Tryz.underlying27 hi0 _ _ _ rfl hown5 rfl ?_)
          refine ⟨⟨i + 1, by congr 1, by omega, ?_, hof5⟩, by simp only [intOf]; omega⟩
          rw [HFT.out, HY0.out, List.append_nil, HFL.out]
          exact hown5
        · have HC := Lib.hid (fun (j : Nat) (u : Value) (hj : (itCells (itemsV f y))[j]? = some u) => hrv.cells (g := g) rfl j u hj)
          have HO := Lib.hid (itCells_one (l := itemsV f y))
          have HCL := Lib.hid (show (itCells (itemsV f y)).length = M * 2 by rw [itCells_len, HM.out])
          clear hrv
          go_wp2_with (at_builtin; refine wpList_append_own _ rfl _ _ 27 rfl w3.heap.size 42 i0 (.agg #[.string ⟨#[]⟩, .int .i64 0]) 2 24 Tryz.underlying27 hi0 hz0 hz1 hz2 rfl (by decide) _ _ _ rfl hown5 ⟨g, 0, none⟩ M cap (itCells (itemsV f y)) rfl HCL.out HC.out HO.out (by unfold maxLen; omega) (by omega) hsz5 ?_; intro v' W6 hown' hgrow _)
          refine ⟨⟨i + 1, by congr 1, by omega, ?_, own_grown hof5 hown5 hgrow⟩, by simp only [intOf]; omega⟩
          rw [HFT.out, List.length_append, itCells_append, HFL.out, HM.out]
          exact hown'
      · obtain rfl : i = K := by omega
        have e0 : (belowV x).take i = belowV x := List.take_of_length_le (by rw [HK.out]; exact Nat.le_refl _)
        rw [e0, ← E.out] at hown
        go_wp2_with fail
        go_ret
        exact ⟨_, rfl, own_base hown HO3.out.size, HO3.out.trans_nil hof⟩
end Go.Proofs.YtpaeihdkggbeoaaGreatDoor
