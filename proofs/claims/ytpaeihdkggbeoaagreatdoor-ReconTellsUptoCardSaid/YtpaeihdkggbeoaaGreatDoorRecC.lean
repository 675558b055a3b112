/- recon.root, Items, Agree; equal trees in plain words; hawserlaw12.awake and ReconSame: the walks. (Merged by gen_recc.py.) Conditions: what each contract states; the tables of unicode/utf8 are laid. -/
import Derived.Test.YtpaeihdkggbeoaaGreatDoorAgreed
namespace Go.Proofs.YtpaeihdkggbeoaaGreatDoor
open Go.RowKit Go.Op

/-- three trees as arguments -/
structure Arg (w : World) (p : Option Addr) (n c : Nat) (t : List Node) : Prop where
  row : Row w p t
  len : t.length = n
  le : n ≤ c
  mx : c ≤ maxLen
  nn : p = none → t = [] ∧ c = 0
  fits : Fits t
theorem Arg.off {w w' : World} {p : Option Addr} {n c : Nat} {t : List Node} (h : Arg w p n c t) (ho : Off [] w w') : Arg w' p n c t := ⟨h.row.off ho, h.len, h.le, h.mx, h.nn, h.fits⟩
def rootV (o a b : List Node) : Vw := ⟨⟨#[]⟩, rootN :: o, rootN :: a, rootN :: b⟩
def okThree (o a b : List Node) : Bool := okTree o && (okTree a && okTree b)
theorem rootN_at {t : List Node} (h : okTree t = true) : atR t (str ⟨#[]⟩) = rootN :: t := by
  unfold atR; rw [if_pos h, if_pos (show str ⟨#[]⟩ = [] from rfl)]
def RootP (o a b : List Node) (w : World) (e : Ending) (w' : World) : Prop :=
  ∃ vo va vb, e = .returned (.tuple #[.agg #[.string ⟨#[]⟩, vo, va, vb], .int .i64 (if okThree o a b = true then 0 else 60)]) ∧ Off [] w w' ∧
    (okThree o a b = true → SlN w.heap.size w' vo (rootN :: o) ∧ SlN w.heap.size w' va (rootN :: a) ∧ SlN w.heap.size w' vb (rootN :: b)) ∧ (okThree o a b = false → vo = .slice none 0 0 ∧ va = .slice none 0 0 ∧ vb = .slice none 0 0)
set_option maxRecDepth 100000 in
set_option maxHeartbeats 8000000 in
theorem root_any (po pa pb : Option Addr) (no na nb co ca cb : Nat) (o a b : List Node) (w : World) (hO : Arg w po no co o) (hA : Arg w pa na ca a) (hB : Arg w pb nb cb b) (hT : Tabs w) :
    Calls Tryz.prog 19 #[.slice po no co, .slice pa na ca, .slice pb nb cb] w (RootP o a b w) := by
  have HCO := Lib.hid (fun (W : World) (ho : Off [] w W) (v : Int) (hv : chkV o = v) => check_v po o no co W (hO.row.off ho) hO.len hO.le (by have := hO.le; have := hO.mx; omega) hO.fits (hT.off ho) v hv)
  have HCA := Lib.hid (fun (W : World) (ho : Off [] w W) (v : Int) (hv : chkV a = v) => check_v pa a na ca W (hA.row.off ho) hA.len hA.le (by have := hA.le; have := hA.mx; omega) hA.fits (hT.off ho) v hv)
  have HCB := Lib.hid (fun (W : World) (ho : Off [] w W) (v : Int) (hv : chkV b = v) => check_v pb b nb cb W (hB.row.off ho) hB.len hB.le (by have := hB.le; have := hB.mx; omega) hB.fits (hT.off ho) v hv)
  have HAO := Lib.hid (fun (W : World) (ho : Off [] w W) => at_any po o no co ⟨#[]⟩ W (hO.row.off ho) hO.len hO.le hO.mx hO.nn hO.fits (hT.off ho))
  have HAA := Lib.hid (fun (W : World) (ho : Off [] w W) => at_any pa a na ca ⟨#[]⟩ W (hA.row.off ho) hA.len hA.le hA.mx hA.nn hA.fits (hT.off ho))
  have HAB := Lib.hid (fun (W : World) (ho : Off [] w W) => at_any pb b nb cb ⟨#[]⟩ W (hB.row.off ho) hB.len hB.le hB.mx hB.nn hB.fits (hT.off ho))
  clear hO hA hB
  go_enter Tryz.func19, Tryz.ntmps19
  go_wp2_with fail
  go_loopw [15] (fun y wr => ∃ k : Nat, y = .int .i64 k ∧ k ≤ 3 ∧ Off [] w wr ∧ Blk wr w.heap.size 50 #[.string ⟨#[]⟩, .slice none 0 0, .slice none 0 0, .slice none 0 0] ∧ Blk wr (w.heap.size + 1) 22 #[.slice po no co, .slice pa na ca, .slice pb nb cb] ∧ Hid ((1 ≤ k → okTree o = true) ∧ (2 ≤ k → okTree a = true) ∧ (3 ≤ k → okTree b = true))) (fun y _ => 3 - (intOf y).toNat)
  case atStart => exact ⟨0, rfl, by omega, ((Off.refl _ _).alloc _).alloc _, (Blk.new w _ _).alloc _, Blk.new1 w _ _ _, Lib.hid ⟨(fun h => by omega), (fun h => by omega), (fun h => by omega)⟩⟩
  case round =>
    obtain ⟨k, rfl, hk, hof, hz, hA, hst⟩ := hrel
    have hcA := hA.cell
    have hlA := hA.lt
    rcases (show k = 0 ∨ k = 1 ∨ k = 2 ∨ k = 3 by omega) with rfl | rfl | rfl | rfl
    · skip
      cases hok : okTree o
      · have HOK := Lib.hid hok
        have HBAD := Lib.hid (show okThree o a b = false from by unfold okThree; rw [HOK.out]; rfl)
        clear hok
        go_wp2_with fail
        refine (HCO.out wr hof 60 (chkV_bad HOK.out)).mono ?_
        rintro e w2 ⟨rfl, ho2⟩
        have hz2 := hz.off ho2 (by simp)
        have hof2 := hof.trans_nil ho2
        have hcZ := hz2.cell
        have hfZ := hz2.frozen
        have hlZ := hz2.lt
        clear hcA hlA hz hA ho2
        go_wp2_with fail
        have hz6 := (((hz2.set_ 0 (.string ⟨#[]⟩)).set_ 1 (.slice none 0 0)).set_ 2 (.slice none 0 0)).set_ 3 (.slice none 0 0)
        have ho6 := (((hof2.setCell (p := ⟨w.heap.size, 0, none⟩) (.inl (Nat.le_refl _)) (.string ⟨#[]⟩)).setCell (p := ⟨w.heap.size, 1, none⟩) (.inl (Nat.le_refl _)) (.slice none 0 0)).setCell (p := ⟨w.heap.size, 2, none⟩) (.inl (Nat.le_refl _)) (.slice none 0 0)).setCell (p := ⟨w.heap.size, 3, none⟩) (.inl (Nat.le_refl _)) (.slice none 0 0)
        have hc6 := hz6.cell
        have HO6 := Lib.hid ho6
        clear ho6 hcZ hfZ hz2 hz6
        refine bodyPost_ret (v := .tuple #[.agg #[.string ⟨#[]⟩, .slice none 0 0, .slice none 0 0, .slice none 0 0], .int .i64 60]) ?_ rfl ?_
        · have hres : Tryz.f19.results = #[.cell 6 50, .tmp 7] := rfl
          simp only [results, hres]
          go_simp
        · refine ⟨_, _, _, by rw [HBAD.out]; rfl, HO6.out, (fun h => by rw [HBAD.out] at h; cases h), fun _ => ⟨rfl, rfl, rfl⟩⟩
      · have HOK := Lib.hid hok
        clear hok
        go_wp2_with fail
        refine (HCO.out wr hof 0 (chkV_ok HOK.out)).mono ?_
        rintro e w2 ⟨rfl, ho2⟩
        have hz2 := hz.off ho2 (by simp)
        have hA2 := hA.off ho2 (by simp)
        have hof2 := hof.trans_nil ho2
        clear hcA hlA hz hA ho2
        go_wp2_with fail
        exact ⟨⟨1, rfl, by omega, hof2, hz2, hA2, Lib.hid (by have h0 := HOK.out; have h1 := hst.out; simp_all)⟩, by simp only [intOf]; omega⟩
    · skip
      cases hok : okTree a
      · have HOK := Lib.hid hok
        have HBAD := Lib.hid (show okThree o a b = false from by unfold okThree; rw [HOK.out]; simp)
        clear hok
        go_wp2_with fail
        refine (HCA.out wr hof 60 (chkV_bad HOK.out)).mono ?_
        rintro e w2 ⟨rfl, ho2⟩
        have hz2 := hz.off ho2 (by simp)
        have hof2 := hof.trans_nil ho2
        have hcZ := hz2.cell
        have hfZ := hz2.frozen
        have hlZ := hz2.lt
        clear hcA hlA hz hA ho2
        go_wp2_with fail
        have hz6 := (((hz2.set_ 0 (.string ⟨#[]⟩)).set_ 1 (.slice none 0 0)).set_ 2 (.slice none 0 0)).set_ 3 (.slice none 0 0)
        have ho6 := (((hof2.setCell (p := ⟨w.heap.size, 0, none⟩) (.inl (Nat.le_refl _)) (.string ⟨#[]⟩)).setCell (p := ⟨w.heap.size, 1, none⟩) (.inl (Nat.le_refl _)) (.slice none 0 0)).setCell (p := ⟨w.heap.size, 2, none⟩) (.inl (Nat.le_refl _)) (.slice none 0 0)).setCell (p := ⟨w.heap.size, 3, none⟩) (.inl (Nat.le_refl _)) (.slice none 0 0)
        have hc6 := hz6.cell
        have HO6 := Lib.hid ho6
        clear ho6 hcZ hfZ hz2 hz6
        refine bodyPost_ret (v := .tuple #[.agg #[.string ⟨#[]⟩, .slice none 0 0, .slice none 0 0, .slice none 0 0], .int .i64 60]) ?_ rfl ?_
        · have hres : Tryz.f19.results = #[.cell 6 50, .tmp 7] := rfl
          simp only [results, hres]
          go_simp
        · refine ⟨_, _, _, by rw [HBAD.out]; rfl, HO6.out, (fun h => by rw [HBAD.out] at h; cases h), fun _ => ⟨rfl, rfl, rfl⟩⟩
      · have HOK := Lib.hid hok
        clear hok
        go_wp2_with fail
        refine (HCA.out wr hof 0 (chkV_ok HOK.out)).mono ?_
        rintro e w2 ⟨rfl, ho2⟩
        have hz2 := hz.off ho2 (by simp)
        have hA2 := hA.off ho2 (by simp)
        have hof2 := hof.trans_nil ho2
        clear hcA hlA hz hA ho2
        go_wp2_with fail
        exact ⟨⟨2, rfl, by omega, hof2, hz2, hA2, Lib.hid (by have h0 := HOK.out; have h1 := hst.out; simp_all)⟩, by simp only [intOf]; omega⟩
    · skip
      cases hok : okTree b
      · have HOK := Lib.hid hok
        have HBAD := Lib.hid (show okThree o a b = false from by unfold okThree; rw [HOK.out]; simp)
        clear hok
        go_wp2_with fail
        refine (HCB.out wr hof 60 (chkV_bad HOK.out)).mono ?_
        rintro e w2 ⟨rfl, ho2⟩
        have hz2 := hz.off ho2 (by simp)
        have hof2 := hof.trans_nil ho2
        have hcZ := hz2.cell
        have hfZ := hz2.frozen
        have hlZ := hz2.lt
        clear hcA hlA hz hA ho2
        go_wp2_with fail
        have hz6 := (((hz2.set_ 0 (.string ⟨#[]⟩)).set_ 1 (.slice none 0 0)).set_ 2 (.slice none 0 0)).set_ 3 (.slice none 0 0)
        have ho6 := (((hof2.setCell (p := ⟨w.heap.size, 0, none⟩) (.inl (Nat.le_refl _)) (.string ⟨#[]⟩)).setCell (p := ⟨w.heap.size, 1, none⟩) (.inl (Nat.le_refl _)) (.slice none 0 0)).setCell (p := ⟨w.heap.size, 2, none⟩) (.inl (Nat.le_refl _)) (.slice none 0 0)).setCell (p := ⟨w.heap.size, 3, none⟩) (.inl (Nat.le_refl _)) (.slice none 0 0)
        have hc6 := hz6.cell
        have HO6 := Lib.hid ho6
        clear ho6 hcZ hfZ hz2 hz6
        refine bodyPost_ret (v := .tuple #[.agg #[.string ⟨#[]⟩, .slice none 0 0, .slice none 0 0, .slice none 0 0], .int .i64 60]) ?_ rfl ?_
        · have hres : Tryz.f19.results = #[.cell 6 50, .tmp 7] := rfl
          simp only [results, hres]
          go_simp
        · refine ⟨_, _, _, by rw [HBAD.out]; rfl, HO6.out, (fun h => by rw [HBAD.out] at h; cases h), fun _ => ⟨rfl, rfl, rfl⟩⟩
      · have HOK := Lib.hid hok
        clear hok
        go_wp2_with fail
        refine (HCB.out wr hof 0 (chkV_ok HOK.out)).mono ?_
        rintro e w2 ⟨rfl, ho2⟩
        have hz2 := hz.off ho2 (by simp)
        have hA2 := hA.off ho2 (by simp)
        have hof2 := hof.trans_nil ho2
        clear hcA hlA hz hA ho2
        go_wp2_with fail
        exact ⟨⟨3, rfl, by omega, hof2, hz2, hA2, Lib.hid (by have h0 := HOK.out; have h1 := hst.out; simp_all)⟩, by simp only [intOf]; omega⟩
    · have HGOOD := Lib.hid (show okThree o a b = true by unfold okThree; rw [hst.out.1 (by omega), hst.out.2.1 (by omega), hst.out.2.2 (by omega)]; rfl)
      clear hcA hlA hA
      have HKO := Lib.hid (hst.out.1 (by omega))
      have HKA := Lib.hid (hst.out.2.1 (by omega))
      have HKB := Lib.hid (hst.out.2.2 (by omega))
      have hzl := hz.lt
      obtain ⟨l1, hl1⟩ : ∃ l1, (rootN :: o).length = l1 := ⟨_, rfl⟩
      obtain ⟨l2, hl2⟩ : ∃ l2, (rootN :: a).length = l2 := ⟨_, rfl⟩
      obtain ⟨l3, hl3⟩ : ∃ l3, (rootN :: b).length = l3 := ⟨_, rfl⟩
      have HL1 := Lib.hid hl1
      have HL2 := Lib.hid hl2
      have HL3 := Lib.hid hl3
      clear hst hl1 hl2 hl3
      go_wp2_with fail
      refine (HAO.out wr hof).mono ?_
      rintro e w2 ⟨xo, rfl, hxo, hoA⟩
      rw [rootN_at HKO.out] at hxo
      obtain ⟨q1, c1, rfl, hr1⟩ := SlN.own hxo
      have HX1 : Hid (SlN wr.heap.size w2 (.slice q1 (rootN :: o).length c1) (rootN :: o)) := Lib.hid ⟨q1, c1, rfl, hr1⟩
      clear hxo hr1
      rw [HL1.out] at HX1 ⊢
      have hof2 := hof.trans_nil hoA
      go_wp2_with fail
      refine (HAA.out w2 hof2).mono ?_
      rintro e w3 ⟨xa, rfl, hxa, hoB⟩
      rw [rootN_at HKA.out] at hxa
      obtain ⟨q2, c2, rfl, hr2⟩ := SlN.own (own_base hxa hoA.size)
      have HX2 : Hid (SlN wr.heap.size w3 (.slice q2 (rootN :: a).length c2) (rootN :: a)) := Lib.hid ⟨q2, c2, rfl, hr2⟩
      clear hxa hr2
      rw [HL2.out] at HX2 ⊢
      have hof3 := hof2.trans_nil hoB
      go_wp2_with fail
      refine (HAB.out w3 hof3).mono ?_
      rintro e w4 ⟨xb, rfl, hxb, hoC⟩
      rw [rootN_at HKB.out] at hxb
      obtain ⟨q3, c3, rfl, hr3⟩ := SlN.own (own_base hxb (hoA.trans_nil hoB).size)
      have HX3 : Hid (SlN wr.heap.size w4 (.slice q3 (rootN :: b).length c3) (rootN :: b)) := Lib.hid ⟨q3, c3, rfl, hr3⟩
      clear hxb hr3
      rw [HL3.out] at HX3 ⊢
      have HX1 := Lib.hid (HX1.out.off (hoB.trans_nil hoC))
      have HX2 := Lib.hid (HX2.out.off hoC)
      have hof4 := hof3.trans_nil hoC
      have hz4 := hz.off ((hoA.trans_nil hoB).trans_nil hoC) (by simp)
      have hcZ := hz4.cell
      have hfZ := hz4.frozen
      have hlZ := hz4.lt
      have hz6 := (((hz4.set_ 0 (.string ⟨#[]⟩)).set_ 1 (.slice q1 l1 c1)).set_ 2 (.slice q2 l2 c2)).set_ 3 (.slice q3 l3 c3)
      have ho6 := (((hof4.setCell (p := ⟨w.heap.size, 0, none⟩) (.inl (Nat.le_refl _)) (.string ⟨#[]⟩)).setCell (p := ⟨w.heap.size, 1, none⟩) (.inl (Nat.le_refl _)) (.slice q1 l1 c1)).setCell (p := ⟨w.heap.size, 2, none⟩) (.inl (Nat.le_refl _)) (.slice q2 l2 c2)).setCell (p := ⟨w.heap.size, 3, none⟩) (.inl (Nat.le_refl _)) (.slice q3 l3 c3)
      have hl6 := ((((Off.refl [w.heap.size] w4).setCell (p := ⟨w.heap.size, 0, none⟩) (.inr (by simp)) (.string ⟨#[]⟩)).setCell (p := ⟨w.heap.size, 1, none⟩) (.inr (by simp)) (.slice q1 l1 c1)).setCell (p := ⟨w.heap.size, 2, none⟩) (.inr (by simp)) (.slice q2 l2 c2)).setCell (p := ⟨w.heap.size, 3, none⟩) (.inr (by simp)) (.slice q3 l3 c3)
      have HC6 := Lib.hid hz6.cell
      have HO6 := Lib.hid ho6
      have HL6 := Lib.hid hl6
      have HSZ := Lib.hid hof.size
      clear hz6 ho6 hl6 hoA hoB hoC hof hof2 hof3 hof4 hz
      go_wp2_with fail
      have hc6 := HC6.out
      refine bodyPost_ret (v := .tuple #[.agg #[.string ⟨#[]⟩, .slice q1 l1 c1, .slice q2 l2 c2, .slice q3 l3 c3], .int .i64 0]) ?_ rfl ?_
      · have hres : Tryz.f19.results = #[.cell 6 50, .tmp 7] := rfl
        simp only [results, hres]
        go_simp
      · refine ⟨_, _, _, by rw [HGOOD.out]; rfl, HO6.out, (fun _ => ⟨(HX1.out.offL HL6.out hzl).weak HSZ.out, (HX2.out.offL HL6.out hzl).weak HSZ.out, (HX3.out.offL HL6.out hzl).weak HSZ.out⟩), fun h => by rw [HGOOD.out] at h; cases h⟩
def xN (c : UInt8) : Node := ⟨⟨#[120]⟩, 1, ⟨#[c]⟩, 0⟩
def yN (c : UInt8) : Node := ⟨⟨#[]⟩, 1, ⟨#[c]⟩, 0⟩
theorem ok1 (c : UInt8) : okTree [xN c] = true := by
  refine tree_of (by simp) (by simp [Sorted]) fun n hn => ?_
  rw [List.mem_singleton] at hn
  subst hn
  refine ⟨?_, ?_, ?_⟩
  · show okPath [120] = true
    decide
  · show rightN ⟨⟨#[120]⟩, 1, ⟨#[c]⟩, 0⟩ = true
    rfl
  · show isDir _ (parent [120]) = true
    rw [show parent [120] = [] by decide]; rfl
theorem in1 (c : UInt8) : inV (rootN :: [xN c]) = [⟨#[120]⟩] := by
  show (if dirV (rootN :: [xN c]) = true then namesR [xN c] [] else []) = _
  rw [if_pos (show dirV [rootN, xN c] = true from rfl)]
  unfold namesR
  rw [ok1]
  rw [if_pos (by rfl)]
  unfold namesOf
  have e : (decide (parent (xN c).p = [])) = true := by
    show decide (parent [120] = []) = true
    decide
  rw [List.filter_cons, if_pos e]
  show [bs (base [120])] = _
  rw [show base [120] = [120] by decide]; rfl
theorem part1 (c : UInt8) : partV (rootN :: [xN c]) ⟨#[120]⟩ = [yN c] := by
  show (if dirV (rootN :: [xN c]) = true then atR [xN c] [120] else []) = _
  rw [if_pos (show dirV [rootN, xN c] = true from rfl), atR_path (ok1 c) (by decide)]
  unfold inAt
  have e : within (xN c).p [120] = true := by show within [120] [120] = true; decide
  rw [List.filter_cons, if_pos e]
  rfl
theorem names1 : compS (sortS [⟨#[120]⟩, ⟨#[120]⟩, ⟨#[120]⟩]) = [⟨#[120]⟩] := by
  unfold sortS compS
  rw [List.mergeSort_of_pairwise (by decide)]
  decide
theorem below1 (a b c : UInt8) : belowV (rootV [xN a] [xN b] [xN c]) = [⟨⟨#[120]⟩, [yN a], [yN b], [yN c]⟩] := by
  have e : namesV (rootV [xN a] [xN b] [xN c]) = [⟨#[120]⟩] := by
    show compS (sortS (inV (rootN :: [xN a]) ++ (inV (rootN :: [xN b]) ++ inV (rootN :: [xN c])))) = _
    rw [in1, in1, in1]; exact names1
  unfold belowV
  rw [e]
  show [Vw.mk (belowP ⟨#[]⟩ ⟨#[120]⟩) (partV (rootN :: [xN a]) ⟨#[120]⟩) (partV (rootN :: [xN b]) ⟨#[120]⟩) (partV (rootN :: [xN c]) ⟨#[120]⟩)] = _
  rw [part1, part1, part1]; rfl
theorem items1 : itemsV 3 (rootV [xN 49] [xN 50] [xN 49]) = [⟨⟨#[120]⟩, 2⟩] := by
  show (if rootN :: [xN 50] = rootN :: [xN 49] then _ else if (dirV (rootN :: [xN 50]) && dirV (rootN :: [xN 49])) = true then (belowV (rootV [xN 49] [xN 50] [xN 49])).flatMap (itemsV 2) else _) = _
  rw [if_neg (by decide), if_pos (by rfl), below1]
  show (if [yN 50] = [yN 49] then _ else if (dirV [yN 50] && dirV [yN 49]) = true then _ else if [yN 49] = [yN 49] then [It.mk ⟨#[120]⟩ 2] else _) ++ [] = _
  rw [if_neg (by decide), if_neg (by decide), if_pos rfl]; rfl
theorem laid_root (t : List Node) : laidV ⟨#[]⟩ (rootN :: t) = rootN :: t := by
  unfold laidV genAll
  apply List.ext_getElem?
  intro i
  rw [List.getElem?_mapIdx]
  cases i with
  | zero => rfl
  | succ i =>
    rw [List.getElem?_cons_succ]
    cases t[i]? with
    | none => rfl
    | some n => rfl
theorem items_same (f : Nat) (o t : List Node) : itemsV (f + 1) (rootV o t t) = if o = t then [] else [⟨⟨#[]⟩, 1⟩] := by
  show (if rootN :: t = rootN :: t then (if rootN :: o = rootN :: t then [] else [It.mk ⟨#[]⟩ 1]) else _) = _
  rw [if_pos rfl]
  by_cases h : o = t
  · rw [if_pos h, if_pos (by rw [h])]
  · rw [if_neg h, if_neg (fun e => h (List.cons.inj e).2)]
theorem agreed_same (f : Nat) (o t : List Node) : agreedV (f + 1) (rootV o t t) = rootN :: t := by
  show (if rootN :: t = rootN :: t then laidV ⟨#[]⟩ (rootN :: t) else _) = _
  rw [if_pos rfl, laid_root]
theorem root_fine {o a b : List Node} (ho : okTree o = true) (ha : okTree a = true) (hb : okTree b = true) : Fine (rootV o a b) ∧ Small (rootV o a b) := by
  have f1 : ∀ {t : List Node}, okTree t = true → Fits (rootN :: t) := fun h x hx => by
    rcases List.mem_cons.1 hx with rfl | hx
    · decide
    · exact fits_put h x hx
  have f2 : ∀ {t : List Node}, okTree t = true → ∀ n ∈ rootN :: t, n.path.size ≤ 400 := fun h x hx => by
    rcases List.mem_cons.1 hx with rfl | hx
    · decide
    · exact okTree_small h hx
  have l1 : ∀ {t : List Node}, okTree t = true → (rootN :: t).length ≤ 1001 := fun h => by rw [List.length_cons]; have := okTree_len h; omega
  refine ⟨⟨f1 ho, f1 ha, f1 hb, l1 ho, l1 ha, l1 hb, ?_⟩, f2 ho, f2 ha⟩
  have := l1 ha
  show 0 + 65 * (rootN :: a).length ≤ 200000
  omega
def ItemsE (L : List It) (code : Int) (w : World) (e : Ending) (w' : World) : Prop :=
  ∃ v, e = .returned (.tuple #[v, .int .i64 code]) ∧ w'.ownsRow w.heap.size 42 2 v L.length (itCells L) ∧ Off [] w w'
set_option maxRecDepth 100000 in
set_option maxHeartbeats 8000000 in
theorem recItems_bad (po pa pb : Option Addr) (no na nb co ca cb : Nat) (o a b : List Node) (w : World) (hO : Arg w po no co o) (hA : Arg w pa na ca a) (hB : Arg w pb nb cb b) (hT : Tabs w) (hk : okThree o a b = false) :
    Calls Tryz.prog 7 #[.slice po no co, .slice pa na ca, .slice pb nb cb] w (ItemsE [] 60 w) := by
  have HR := Lib.hid (root_any po pa pb no na nb co ca cb o a b w hO hA hB hT)
  have HK := Lib.hid hk
  clear hO hA hB hk
  go_enter Tryz.func7, Tryz.ntmps7
  go_wp2_with fail
  refine HR.out.mono ?_
  rintro e w1 ⟨vo, va, vb, rfl, ho, -, h2⟩
  obtain ⟨rfl, rfl, rfl⟩ := h2 HK.out
  rw [HK.out]
  clear h2 HR
  go_wp2_with fail
  go_ret2
  exact ⟨_, rfl, ⟨rfl, .inl ⟨rfl, rfl⟩⟩, ho.alloc _⟩
set_option maxRecDepth 100000 in
set_option maxHeartbeats 8000000 in
theorem recItems_ok (po pa pb : Option Addr) (no na nb co ca cb : Nat) (o a b : List Node) (w : World) (hO : Arg w po no co o) (hA : Arg w pa na ca a) (hB : Arg w pb nb cb b) (hT : Tabs w) (hk : okThree o a b = true) (f : Nat) (hf : a.length + 1 < f) (hlen : (itemsV f (rootV o a b)).length ≤ 1000000000) :
    Calls Tryz.prog 7 #[.slice po no co, .slice pa na ca, .slice pb nb cb] w (ItemsE (itemsV f (rootV o a b)) 0 w) := by
  have HR := Lib.hid (root_any po pa pb no na nb co ca cb o a b w hO hA hB hT)
  have HK := Lib.hid hk
  have hk' : okTree o = true ∧ okTree a = true ∧ okTree b = true := by
    unfold okThree at hk
    simpa [Bool.and_eq_true] using hk
  have HF := Lib.hid (root_fine hk'.1 hk'.2.1 hk'.2.2)
  have HLEN := Lib.hid hlen
  clear hO hA hB hk hk' hlen
  go_enter Tryz.func7, Tryz.ntmps7
  go_wp2_with fail
  refine HR.out.mono ?_
  rintro e w1 ⟨vo, va, vb, rfl, ho, h1, -⟩
  have h1 := h1 HK.out
  rw [if_pos HK.out]
  have HIT := Lib.hid (fun (W : World) (hw : Off [] w1 W) => items_any f _ (rootV o a b) vo va vb W (show (rootN :: a).length < f by rw [List.length_cons]; omega) (h1.1.off hw) (h1.2.1.off hw) (h1.2.2.off hw) HF.out.1 HLEN.out (hT.off (ho.trans_nil hw)))
  obtain ⟨⟨q1, c1, rfl, -⟩, ⟨q2, c2, rfl, -⟩, q3, c3, rfl, -⟩ := h1
  obtain ⟨l1, hl1⟩ : ∃ l1, (rootN :: o).length = l1 := ⟨_, rfl⟩
  obtain ⟨l2, hl2⟩ : ∃ l2, (rootN :: a).length = l2 := ⟨_, rfl⟩
  obtain ⟨l3, hl3⟩ : ∃ l3, (rootN :: b).length = l3 := ⟨_, rfl⟩
  rw [hl1, hl2, hl3] at HIT ⊢
  clear hl1 hl2 hl3 HR
  go_wp2_with fail
  refine (HIT.out _ ((Off.refl _ _).alloc _)).mono ?_
  rintro e w2 ⟨v, rfl, hown, ho2⟩
  have hal := ho.alloc (.cells #[.string ⟨#[]⟩, .slice q1 l1 c1, .slice q2 l2 c2, .slice q3 l3 c3] 50)
  have hown := own_base hown hal.size
  have ho := hal.trans_nil ho2
  clear hal ho2
  go_wp2_with fail
  go_ret2
  exact ⟨_, rfl, hown, ho⟩
def AgreeE (L : List Node) (code : Int) (w : World) (e : Ending) (w' : World) : Prop :=
  ∃ v, e = .returned (.tuple #[v, .int .i64 code]) ∧ Sl w' v L ∧ Off [] w w'
theorem laid_cons (p : ByteArray) (x : Node) (v : List Node) : ∃ y r, laidV p (x :: v) = y :: r := by
  unfold laidV genAll
  rw [List.mapIdx_cons]
  exact ⟨_, _, rfl⟩
theorem agreed_cons {f : Nat} {o a b : List Node} (hf : 0 < f) : ∃ y r, agreedV f (rootV o a b) = y :: r := by
  obtain ⟨g, rfl⟩ : ∃ g, f = g + 1 := ⟨f - 1, by omega⟩
  unfold agreedV
  split
  · exact laid_cons _ _ _
  · split
    · exact ⟨_, _, rfl⟩
    · exact laid_cons _ _ _
set_option maxRecDepth 100000 in
set_option maxHeartbeats 8000000 in
theorem recAgree_bad (po pa pb : Option Addr) (no na nb co ca cb : Nat) (o a b : List Node) (w : World) (hO : Arg w po no co o) (hA : Arg w pa na ca a) (hB : Arg w pb nb cb b) (hT : Tabs w) (hk : okThree o a b = false) :
    Calls Tryz.prog 9 #[.slice po no co, .slice pa na ca, .slice pb nb cb] w (AgreeE [] 60 w) := by
  have HR := Lib.hid (root_any po pa pb no na nb co ca cb o a b w hO hA hB hT)
  have HK := Lib.hid hk
  clear hO hA hB hk
  go_enter Tryz.func9, Tryz.ntmps9
  go_wp2_with fail
  refine HR.out.mono ?_
  rintro e w1 ⟨vo, va, vb, rfl, ho, -, h2⟩
  obtain ⟨rfl, rfl, rfl⟩ := h2 HK.out
  rw [HK.out]
  clear h2 HR
  go_wp2_with fail
  go_ret2
  exact ⟨_, rfl, Sl.none, ho.alloc _⟩
set_option maxRecDepth 100000 in
set_option maxHeartbeats 8000000 in
theorem recAgree_ok (po pa pb : Option Addr) (no na nb co ca cb : Nat) (o a b : List Node) (w : World) (hO : Arg w po no co o) (hA : Arg w pa na ca a) (hB : Arg w pb nb cb b) (hT : Tabs w) (hk : okThree o a b = true) (f : Nat) (hf : a.length + 1 < f) (hlen : (agreedV f (rootV o a b)).length ≤ 1000000000) :
    Calls Tryz.prog 9 #[.slice po no co, .slice pa na ca, .slice pb nb cb] w (AgreeE (agreedV f (rootV o a b)).tail 0 w) := by
  have HR := Lib.hid (root_any po pa pb no na nb co ca cb o a b w hO hA hB hT)
  have HK := Lib.hid hk
  have hk' : okTree o = true ∧ okTree a = true ∧ okTree b = true := by
    unfold okThree at hk
    simpa [Bool.and_eq_true] using hk
  have HF := Lib.hid (root_fine hk'.1 hk'.2.1 hk'.2.2)
  have HLEN := Lib.hid hlen
  clear hO hA hB hk hk' hlen
  go_enter Tryz.func9, Tryz.ntmps9
  go_wp2_with fail
  refine HR.out.mono ?_
  rintro e w1 ⟨vo, va, vb, rfl, ho, h1, -⟩
  have h1 := h1 HK.out
  rw [if_pos HK.out]
  have HIT := Lib.hid (fun (W : World) (hw : Off [] w1 W) => agreed_any f _ (rootV o a b) vo va vb W (show (rootN :: a).length < f by rw [List.length_cons]; omega) (h1.1.off hw) (h1.2.1.off hw) (h1.2.2.off hw) HF.out.1 HF.out.2 HLEN.out (hT.off (ho.trans_nil hw)))
  obtain ⟨⟨q1, c1, rfl, -⟩, ⟨q2, c2, rfl, -⟩, q3, c3, rfl, -⟩ := h1
  obtain ⟨l1, hl1⟩ : ∃ l1, (rootN :: o).length = l1 := ⟨_, rfl⟩
  obtain ⟨l2, hl2⟩ : ∃ l2, (rootN :: a).length = l2 := ⟨_, rfl⟩
  obtain ⟨l3, hl3⟩ : ∃ l3, (rootN :: b).length = l3 := ⟨_, rfl⟩
  rw [hl1, hl2, hl3] at HIT ⊢
  clear hl1 hl2 hl3 HR
  obtain ⟨y, r, hyr⟩ := agreed_cons (f := f) (o := o) (a := a) (b := b) (by omega)
  have HYR := Lib.hid hyr
  rw [hyr] at HIT
  clear hyr
  go_wp2_with fail
  refine (HIT.out _ ((Off.refl _ _).alloc _)).mono ?_
  rintro e w2 ⟨v, rfl, hown, ho2⟩
  have hal := ho.alloc (.cells #[.string ⟨#[]⟩, .slice q1 l1 c1, .slice q2 l2 c2, .slice q3 l3 c3] 50)
  have ho := hal.trans_nil ho2
  obtain ⟨p, c, rfl, hr, hc, hm, hn⟩ := own_all hown
  cases p with
  | none => cases (hn rfl).1
  | some q =>
    have hsl := rest_sl hr rfl hc hm
    have hl1 : (y :: r).length = r.length + 1 := rfl
    obtain ⟨n, hn2⟩ : ∃ n, (y :: r).length = n := ⟨_, rfl⟩
    rw [hn2] at hsl hc ⊢
    have hpos : 1 ≤ n := by rw [← hn2, hl1]; omega
    have HSL := Lib.hid hsl
    clear hal ho2 hown hr hm hn hsl hl1 hn2
    by_cases hc1 : c = 1
    · subst hc1
      obtain rfl : n = 1 := by omega
      go_wp2_with fail
      go_ret2
      refine ⟨_, rfl, ?_, ho⟩
      rw [HYR.out]
      have := HSL.out
      rw [if_pos trivial] at this
      exact this
    · go_wp2_with fail
      go_ret2
      refine ⟨_, rfl, ?_, ho⟩
      rw [HYR.out]
      have := HSL.out
      rw [if_neg hc1] at this
      exact this
def oneP (c : UInt8) (w : World) (e : Ending) (w' : World) : Prop := ∃ g, e = .returned (.slice (some ⟨g, 0, none⟩) 1 1) ∧ Arg w' (some ⟨g, 0, none⟩) 1 1 [xN c] ∧ Off [] w w'
set_option maxRecDepth 100000 in
theorem one_any (c : UInt8) (w : World) : Calls Tryz.prog 18 #[.string ⟨#[c]⟩] w (oneP c w) := by
  go_enter Tryz.func18, Tryz.ntmps18
  go_wp2_with fail
  go_ret
  have hb : (w.alloc (.cells #[.string ⟨#[120]⟩, .int .i64 1, .string ⟨#[c]⟩, .int .i64 0] 40)).ownsRow w.heap.size 40 4 (.slice (some ⟨w.heap.size, 0, none⟩) 1 1) 1 (cellsOf [xN c]) :=
    ⟨rfl, .inr ⟨_, 1, _, rfl, Nat.le_refl _, heap_alloc_new w _, by omega, by decide, rfl, rfl⟩⟩
  obtain ⟨p, k, e1, hr, -, -, -⟩ := own_row (t := [xN c]) hb
  cases e1
  exact ⟨_, rfl, ⟨hr, rfl, Nat.le_refl _, by decide, (fun h => by cases h), fits_put (ok1 c)⟩, (Off.refl _ _).alloc _⟩
theorem three1 (a b c : UInt8) : okThree [xN a] [xN b] [xN c] = true := by unfold okThree; rw [ok1, ok1, ok1]; rfl
theorem eqItem (x y : It) (w : World) : (Op.equalIn 10000 42 (.agg #[.string x.path, .int .i64 x.what]) (.agg #[.string y.path, .int .i64 y.what])).run Tryz.prog w = .ok (decide (x.path = y.path ∧ x.what = y.what)) w := by
  have u3 := Tryz.underlying3
  have a3 := Tryz.isAgg3
  have z3 := Tryz.sizeOf3
  have u9 := Tryz.underlying9
  have a9 := Tryz.isAgg9
  have z9 := Tryz.sizeOf9
  have hS : Tryz.prog.underlying 42 = some (.struct (Tryz.prog.fieldsOf 42)) := by kernel_rfl
  have hp : Tryz.prog.stoodInHeld 42 = false := by kernel_rfl
  rw [show (10000 : Nat) = 9999 + 1 from rfl, run_equalIn_agg w 9999 42 _ _ hS hp]
  simp only [Program.fieldsOf, Tryz.underlying42]
  go_simp
  obtain ⟨x1, x2⟩ := x
  obtain ⟨y1, y2⟩ := y
  by_cases h1 : x1 = y1 <;> by_cases h2 : x2 = y2 <;> simp [toList_iff, h1, h2]
set_option maxRecDepth 100000 in
set_option maxHeartbeats 8000000 in
theorem awake12_any (w : World) (hT : Tabs w) : Calls Tryz.prog 5 #[] w fun e w' => e = .returned (.bool true) ∧ Off [] w w' := by
  go_enter Tryz.func5, Tryz.ntmps5
  go_wp2_with fail
  refine (one_any 49 _).mono ?_
  rintro e w1 ⟨g1, rfl, A1, ho1⟩
  go_wp2_with fail
  refine (one_any 50 _).mono ?_
  rintro e w2 ⟨g2, rfl, A2, ho2⟩
  go_wp2_with fail
  refine (one_any 49 _).mono ?_
  rintro e w3 ⟨g3, rfl, A3, ho3⟩
  have hof3 := (ho1.trans_nil ho2).trans_nil ho3
  have HI := Lib.hid (recItems_ok _ _ _ 1 1 1 1 1 1 [xN 49] [xN 50] [xN 49] w3 (A1.off (ho2.trans_nil ho3)) (A2.off ho3) A3 (hT.off hof3) (three1 _ _ _) 3 (by simp) (by rw [items1]; simp))
  rw [items1] at HI
  clear A1 A2 A3 ho1 ho2 ho3
  go_wp2_with fail
  refine HI.out.mono ?_
  rintro e w4 ⟨v, rfl, hown, ho4⟩
  have hof4 := hof3.trans_nil ho4
  have HOWN := Lib.hid hown
  obtain ⟨gi, ci, rfl⟩ := ownsRow_succ (k := 0) hown
  clear hof3 ho4 hown HI
  go_wp2_with fail
  refine (one_any 49 _).mono ?_
  rintro e w5 ⟨g5, rfl, A1, ho1⟩
  go_wp2_with fail
  refine (one_any 50 _).mono ?_
  rintro e w6 ⟨g6, rfl, A2, ho2⟩
  go_wp2_with fail
  refine (one_any 50 _).mono ?_
  rintro e w7 ⟨g7, rfl, A3, ho3⟩
  have hch7 := (ho1.trans_nil ho2).trans_nil ho3
  have hof7 := hof4.trans_nil hch7
  have HG := Lib.hid (recAgree_ok _ _ _ 1 1 1 1 1 1 [xN 49] [xN 50] [xN 50] w7 (A1.off (ho2.trans_nil ho3)) (A2.off ho3) A3 (hT.off hof7) (three1 _ _ _) 3 (by simp) (by rw [agreed_same]; simp))
  rw [agreed_same] at HG
  clear A1 A2 A3 ho1 ho2 ho3
  go_wp2_with fail
  refine HG.out.mono ?_
  rintro e w8 ⟨v, rfl, hsl, ho8⟩
  have hown8 := own_keepG HOWN.out (hch7.trans_nil ho8)
  have hof8 := hof7.trans_nil ho8
  have i0 : w8.cell? ⟨gi, 0, none⟩ = some (.string ⟨#[120]⟩) := by have := hown8.cells (g := gi) rfl 0 (.string ⟨#[120]⟩) rfl; rwa [addr_add] at this
  have i1 : w8.cell? ⟨gi, 1, none⟩ = some (.int .i64 2) := by have := hown8.cells (g := gi) rfl 1 (.int .i64 2) rfl; rwa [addr_add] at this
  obtain ⟨pz, cz, rfl, hrz, -⟩ := hsl
  obtain ⟨az, rfl, hnz, -⟩ := Row.head (x := xN 50) (t := []) hrz
  have d2 : w8.cell? ⟨az.block, az.off + 2, none⟩ = some (.string ⟨#[50]⟩) := hnz.data
  have heq := eqItem ⟨⟨#[120]⟩, 2⟩ ⟨⟨#[120]⟩, 2⟩
  have hgd : Tryz.prog.eqGuardType Tryz.prog.depth 42 = false := by kernel_rfl
  clear HOWN HG hown8 hnz hrz hof4 hof7 hch7
  go_wp2_with fail
  go_ret
  exact ⟨rfl, hof8⟩
theorem own_slice {W : World} {base e sz n : Nat} {v : Value} {xs : List Value} (h : W.ownsRow base e sz v n xs) : ∃ p c, v = .slice p n c := by
  rcases h.2 with ⟨rfl, rfl⟩ | ⟨g, cap, cur, rfl, _⟩
  · exact ⟨_, _, rfl⟩
  · exact ⟨_, _, rfl⟩
theorem three_bad1 {o t : List Node} (h : okTree t = false) : okThree o t t = false := by unfold okThree; rw [h]; simp
theorem three_bad2 {o t : List Node} (h : okTree o = false) : okThree o t t = false := by unfold okThree; rw [h]; rfl
theorem three_ok {o t : List Node} (h : okTree o = true) (k : okTree t = true) : okThree o t t = true := by unfold okThree; rw [h, k]; rfl
end Go.Proofs.YtpaeihdkggbeoaaGreatDoor
