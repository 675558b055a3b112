/- hawserref06.Differ: the walk. Conditions: no string is longer than 1048576 bytes; no list is longer than 2^40. -/
import Derived.Test.YtpaeihdkggbeoaaDoorDifLaw
namespace Go.Proofs.YtpaeihdkggbeoaaDoor
open Go.RowKit Go.Op

/-- a list of strings that the call has made so far -/
def DRel (w : World) (A B : List Node) (i j : Nat) (v : Value) (wr : World) : Prop :=
  ∃ D : List ByteArray, DifAt A B i j D ∧ wr.ownsRow w.heap.size 9 1 v D.length (D.map Value.string) ∧ Off [] w wr
theorem rcheck_v (p : Option Addr) (t : List Node) (n cap : Nat) (w : World) (hR : Row w p t) (hn : t.length = n) (hbig : n ≤ 1099511627776) (hF : Fits1 t) (c : Int) (hc : chkV t = c) :
    Calls Tryd.prog 37 #[.slice p n cap] w fun e w' => e = .returned (.int .i64 c) ∧ Off [] w w' := hc ▸ rcheck_any p t n cap w hR hn hbig hF
set_option maxRecDepth 100000 in
set_option maxHeartbeats 4000000 in
theorem rdiffer_any (p q : Option Addr) (A B : List Node) (n m c d : Nat) (w : World) (hA : Row w p A) (hB : Row w q B) (hn : A.length = n) (hm : B.length = m) (hbn : n ≤ 1099511627776) (hbm : m ≤ 1099511627776) (hFA : Fits1 A) (hFB : Fits1 B) :
    Calls Tryd.prog 18 #[.slice p n c, .slice q m d] w (MadeS (differR A B) w) := by
  have HN := Lib.hid hn
  have HM := Lib.hid hm
  have HA := Lib.hid hA
  have HB := Lib.hid hB
  have HFA := Lib.hid hFA
  have HFB := Lib.hid hFB
  clear hn hm hA hB hFA hFB
  cases hokA : okTree A
  · have HOA := Lib.hid hokA
    clear hokA
    go_enter Tryd.func18, Tryd.ntmps18
    go_wp2_with fail
    refine (rcheck_v p A n c _ HA.out HN.out hbn HFA.out 60 (chkV_bad HOA.out)).mono ?_
    rintro e w1 ⟨rfl, ho⟩
    go_wp2_with fail
    go_ret
    have e0 : differR A B = [] := by unfold differR; rw [HOA.out]; rfl
    exact ⟨_, rfl, by rw [e0]; exact ⟨rfl, .inl ⟨rfl, rfl⟩⟩, ho⟩
  have HOA := Lib.hid hokA
  clear hokA
  cases hokB : okTree B
  · have HOB := Lib.hid hokB
    clear hokB
    go_enter Tryd.func18, Tryd.ntmps18
    go_wp2_with fail
    refine (rcheck_v p A n c _ HA.out HN.out hbn HFA.out 0 (chkV_ok HOA.out)).mono ?_
    rintro e w1 ⟨rfl, ho⟩
    go_wp2_with fail
    refine (rcheck_v q B m d _ (HB.out.off ho) HM.out hbm HFB.out 60 (chkV_bad HOB.out)).mono ?_
    rintro e w2 ⟨rfl, ho2⟩
    go_wp2_with fail
    go_ret
    have e0 : differR A B = [] := by unfold differR; rw [HOB.out]; simp
    exact ⟨_, rfl, by rw [e0]; exact ⟨rfl, .inl ⟨rfl, rfl⟩⟩, ho.trans_nil ho2⟩
  have HOB := Lib.hid hokB
  clear hokB
  have hn1 : n ≤ 1000 := by rw [← HN.out]; exact okTree_len HOA.out
  have hm1 : m ≤ 1000 := by rw [← HM.out]; exact okTree_len HOB.out
  obtain ⟨i0, hi0, hz0, hz1, hz2⟩ := info_parts infoStr
  go_enter Tryd.func18, Tryd.ntmps18
  go_wp2_with fail
  refine (rcheck_v p A n c _ HA.out HN.out hbn HFA.out 0 (chkV_ok HOA.out)).mono ?_
  rintro e w1 ⟨rfl, ho⟩
  go_wp2_with fail
  refine (rcheck_v q B m d _ (HB.out.off ho) HM.out hbm HFB.out 0 (chkV_ok HOB.out)).mono ?_
  rintro e w2 ⟨rfl, ho2⟩
  have ho0 := ho.trans_nil ho2
  clear ho ho2
  go_wp2_with fail
  go_loopw [6, 7, 5] (fun x y v wr => ∃ i j : Nat, x = .int .i64 i ∧ y = .int .i64 j ∧ i ≤ n ∧ j ≤ m ∧ DRel w A B i j v wr) (fun x y _ _ => n + m - (intOf x).toNat - (intOf y).toNat)
  case atStart => exact ⟨0, 0, rfl, rfl, by omega, by omega, [], DifAt.start A B, ⟨rfl, .inl ⟨rfl, rfl⟩⟩, ho0⟩
  case round =>
    obtain ⟨i, j, rfl, rfl, hi, hj, D, hdif, hown, hoff⟩ := hrel
    have HDIF := Lib.hid hdif
    have hDl : D.length ≤ 2000 := by have := hdif.len; omega
    clear hdif
    by_cases hin : i < n
    · have hil : i < A.length := by rw [HN.out]; exact hin
      obtain ⟨a, rfl, hna, hab⟩ := (HA.out.off hoff).get i hil
      have HX := Lib.hid (List.getElem?_eq_getElem hil)
      have hxs := (HFA.out _ (List.getElem_mem hil)).1
      generalize A[i] = x at *
      have c0 := hna.path
      have habk : (a.add (i * 4)).block < wr.heap.size := by rw [add_block]; exact hab
      have HNA := Lib.hid hna
      clear hna
      by_cases hjm : j < m
      · have hjl : j < B.length := by rw [HM.out]; exact hjm
        obtain ⟨b, rfl, hnb, hbb⟩ := (HB.out.off hoff).get j hjl
        have HY := Lib.hid (List.getElem?_eq_getElem hjl)
        have hys := (HFB.out _ (List.getElem_mem hjl)).1
        generalize B[j] = y at *
        have d0 := hnb.path
        have hbbk : (b.add (j * 4)).block < wr.heap.size := by rw [add_block]; exact hbb
        have HNB := Lib.hid hnb
        have hjq : ((j : Int) == (m : Int)) = false := beq_eq_false_iff_ne.2 (by omega)
        have hiq : ((i : Int) == (n : Int)) = false := beq_eq_false_iff_ne.2 (by omega)
        clear hnb
        obtain ⟨k, hk⟩ : ∃ k, order (str x.path) (str y.path) = k := ⟨_, rfl⟩
        have HK := Lib.hid hk
        clear hk
        have hx := fun (x : World) (p : Addr) (hp : p.block < wr.heap.size) => ext_cell hp x
        by_cases hk0 : k < 0
        · go_wp2_with fail
          refine wp_region_ext (by kernel_rfl) (by kernel_rfl) ?_
          repeat (go_big_quiet_step (first
            | (go_at_call 38; exact Calls.ext_of (rorder_v x.path y.path _ hxs hys k HK.out))))
          refine wpQuiet_nil ?_
          rintro W2 ⟨x2, rfl⟩
          have hoEW2 := ext_off wr x2
          clear hx c0 d0
          generalize ext wr x2 = W2 at *
          have hown2 := ownsRow_off hown hoEW2
          have hoff2 := hoff.trans_nil hoEW2
          have c0 := (HNA.out.off hoEW2 habk).path
          go_wp2_with (at_builtin; refine wpList_append_own _ rfl _ _ 26 rfl w.heap.size 9 i0 (.string ⟨#[]⟩) 1 16 Tryd.underlying26 hi0 hz0 hz1 hz2 rfl (by decide) _ _ _ rfl (hown2.alloc _) ⟨W2.heap.size, 0, none⟩ 1 1 [_] rfl rfl (cell_one_at (Blk.new W2 _ _)) (by simp [Value.oneCell']) (by unfold maxLen; omega) (by omega) (by have := hoff2.size; simp; omega) ?_; intro v' w6 hown' hgrow _)
          refine ⟨⟨i + 1, j, by congr 1, rfl, by omega, by omega, D ++ [x.path], HDIF.out.left HX.out (.inr ⟨y, HY.out, by have : order x.p y.p = k := HK.out; omega⟩), by simpa using hown', own_off hoff2 hown2 hgrow⟩, by simp only [intOf]; omega⟩
        by_cases hk1 : 0 < k
        · go_wp2_with fail
          refine wp_region_ext (by kernel_rfl) (by kernel_rfl) ?_
          repeat (go_big_quiet_step (first
            | (go_at_call 38; exact Calls.ext_of (rorder_v x.path y.path _ hxs hys k HK.out))))
          refine wpQuiet_nil ?_
          rintro W1 ⟨x1, rfl⟩
          have hoEW1 := ext_off wr x1
          clear hx c0 d0
          generalize ext wr x1 = W1 at *
          have hoff1 := hoff.trans_nil hoEW1
          have hown1 := ownsRow_off hown hoEW1
          have HNA1 := Lib.hid (HNA.out.off hoEW1 habk)
          have HNB1 := Lib.hid (HNB.out.off hoEW1 hbbk)
          have habk1 := Nat.lt_of_lt_of_le habk hoEW1.size
          have hbbk1 := Nat.lt_of_lt_of_le hbbk hoEW1.size
          have c0 := HNA1.out.path
          have d0 := HNB1.out.path
          have hx := fun (x : World) (p : Addr) (hp : p.block < W1.heap.size) => ext_cell hp x
          go_wp2_with fail
          refine wp_region_ext (by kernel_rfl) (by kernel_rfl) ?_
          repeat (go_big_quiet_step (first
            | (go_at_call 38; exact Calls.ext_of (rorder_v x.path y.path _ hxs hys k HK.out))))
          refine wpQuiet_nil ?_
          rintro W2 ⟨x2, rfl⟩
          have hoEW2 := ext_off W1 x2
          clear hx c0 d0
          generalize ext W1 x2 = W2 at *
          have hown2 := ownsRow_off hown1 hoEW2
          have hoff2 := hoff1.trans_nil hoEW2
          have d0 := (HNB1.out.off hoEW2 hbbk1).path
          go_wp2_with (at_builtin; refine wpList_append_own _ rfl _ _ 26 rfl w.heap.size 9 i0 (.string ⟨#[]⟩) 1 16 Tryd.underlying26 hi0 hz0 hz1 hz2 rfl (by decide) _ _ _ rfl (hown2.alloc _) ⟨W2.heap.size, 0, none⟩ 1 1 [_] rfl rfl (cell_one_at (Blk.new W2 _ _)) (by simp [Value.oneCell']) (by unfold maxLen; omega) (by omega) (by have := hoff2.size; simp; omega) ?_; intro v' w6 hown' hgrow _)
          refine ⟨⟨i, j + 1, rfl, by congr 1, by omega, by omega, D ++ [y.path], HDIF.out.right HY.out (.inr ⟨x, HX.out, by have : order x.p y.p = k := HK.out; omega⟩), by simpa using hown', own_off hoff2 hown2 hgrow⟩, by simp only [intOf]; omega⟩
        by_cases hxy : x = y
        · have HD := Lib.hid (decide_eq_true hxy)
          have HXY := Lib.hid hxy
          clear hxy
          go_wp2_with fail
          refine wp_region_ext (by kernel_rfl) (by kernel_rfl) ?_
          repeat (go_big_quiet_step (first
            | (go_at_call 38; exact Calls.ext_of (rorder_v x.path y.path _ hxs hys k HK.out))))
          refine wpQuiet_nil ?_
          rintro W1 ⟨x1, rfl⟩
          have hoEW1 := ext_off wr x1
          clear hx c0 d0
          generalize ext wr x1 = W1 at *
          have hoff1 := hoff.trans_nil hoEW1
          have hown1 := ownsRow_off hown hoEW1
          have HNA1 := Lib.hid (HNA.out.off hoEW1 habk)
          have HNB1 := Lib.hid (HNB.out.off hoEW1 hbbk)
          have habk1 := Nat.lt_of_lt_of_le habk hoEW1.size
          have hbbk1 := Nat.lt_of_lt_of_le hbbk hoEW1.size
          have c0 := HNA1.out.path
          have d0 := HNB1.out.path
          have hx := fun (x : World) (p : Addr) (hp : p.block < W1.heap.size) => ext_cell hp x
          go_wp2_with fail
          refine wp_region_ext (by kernel_rfl) (by kernel_rfl) ?_
          repeat (go_big_quiet_step (first
            | (go_at_call 38; exact Calls.ext_of (rorder_v x.path y.path _ hxs hys k HK.out))))
          refine wpQuiet_nil ?_
          rintro W2 ⟨x2, rfl⟩
          have hoEW2 := ext_off W1 x2
          clear hx c0 d0
          generalize ext W1 x2 = W2 at *
          have hown2 := ownsRow_off hown1 hoEW2
          have hoff2 := hoff1.trans_nil hoEW2
          have hna2 := HNA1.out.off hoEW2 habk1
          have hnb2 := HNB1.out.off hoEW2 hbbk1
          have habk2 := Nat.lt_of_lt_of_le habk1 hoEW2.size
          have hbbk2 := Nat.lt_of_lt_of_le hbbk1 hoEW2.size
          have c0 := hna2.path
          have c1 := hna2.kind
          have c2 := hna2.data
          have c3 := hna2.mode
          have d0 := hnb2.path
          have d1 := hnb2.kind
          have d2 := hnb2.data
          have d3 := hnb2.mode
          clear hna2 hnb2
          have heq := eqNode x y
          have hgd : Tryd.prog.eqGuardType Tryd.prog.depth 29 = false := by kernel_rfl
          rw [HD.out] at heq
          go_wp2_with fail
          go_quiet (fail)
          go_wp2_with fail
          have hdn := HDIF.out.both HX.out HY.out (by have : order x.p y.p = k := HK.out; omega)
          have e1 : oneDif x y = [] := by unfold oneDif; rw [if_pos HXY.out]
          rw [e1, List.append_nil] at hdn
          refine ⟨⟨i + 1, j + 1, by congr 1, by congr 1, by omega, by omega, D, hdn, ownsRow_off hown2 ((Off.refl _ _).drewN _), hoff2.drewN _⟩, by simp only [intOf]; omega⟩
        · have HD := Lib.hid (decide_eq_false hxy)
          have HXY := Lib.hid hxy
          clear hxy
          go_wp2_with fail
          refine wp_region_ext (by kernel_rfl) (by kernel_rfl) ?_
          repeat (go_big_quiet_step (first
            | (go_at_call 38; exact Calls.ext_of (rorder_v x.path y.path _ hxs hys k HK.out))))
          refine wpQuiet_nil ?_
          rintro W1 ⟨x1, rfl⟩
          have hoEW1 := ext_off wr x1
          clear hx c0 d0
          generalize ext wr x1 = W1 at *
          have hoff1 := hoff.trans_nil hoEW1
          have hown1 := ownsRow_off hown hoEW1
          have HNA1 := Lib.hid (HNA.out.off hoEW1 habk)
          have HNB1 := Lib.hid (HNB.out.off hoEW1 hbbk)
          have habk1 := Nat.lt_of_lt_of_le habk hoEW1.size
          have hbbk1 := Nat.lt_of_lt_of_le hbbk hoEW1.size
          have c0 := HNA1.out.path
          have d0 := HNB1.out.path
          have hx := fun (x : World) (p : Addr) (hp : p.block < W1.heap.size) => ext_cell hp x
          go_wp2_with fail
          refine wp_region_ext (by kernel_rfl) (by kernel_rfl) ?_
          repeat (go_big_quiet_step (first
            | (go_at_call 38; exact Calls.ext_of (rorder_v x.path y.path _ hxs hys k HK.out))))
          refine wpQuiet_nil ?_
          rintro W2 ⟨x2, rfl⟩
          have hoEW2 := ext_off W1 x2
          clear hx c0 d0
          generalize ext W1 x2 = W2 at *
          have hown2 := ownsRow_off hown1 hoEW2
          have hoff2 := hoff1.trans_nil hoEW2
          have hna2 := HNA1.out.off hoEW2 habk1
          have hnb2 := HNB1.out.off hoEW2 hbbk1
          have habk2 := Nat.lt_of_lt_of_le habk1 hoEW2.size
          have hbbk2 := Nat.lt_of_lt_of_le hbbk1 hoEW2.size
          have c0 := hna2.path
          have c1 := hna2.kind
          have c2 := hna2.data
          have c3 := hna2.mode
          have d0 := hnb2.path
          have d1 := hnb2.kind
          have d2 := hnb2.data
          have d3 := hnb2.mode
          clear hna2 hnb2
          have heq := eqNode x y
          have hgd : Tryd.prog.eqGuardType Tryd.prog.depth 29 = false := by kernel_rfl
          rw [HD.out] at heq
          go_wp2_with fail
          go_quiet (fail)
          have hoE3 : Off [] W2 (W2.drewN nq) := (Off.refl _ _).drewN _
          generalize W2.drewN nq = W3 at *
          have c0' := (hoE3.cell (p := a.add (i * 4)) habk2 (by simp)).trans c0
          clear c0 c1 c2 c3 d0 d1 d2 d3 heq
          have hown3 := ownsRow_off hown2 hoE3
          have hoff3 := hoff2.trans_nil hoE3
          go_wp2_with (at_builtin; refine wpList_append_own _ rfl _ _ 26 rfl w.heap.size 9 i0 (.string ⟨#[]⟩) 1 16 Tryd.underlying26 hi0 hz0 hz1 hz2 rfl (by decide) _ _ _ rfl (hown3.alloc _) ⟨W3.heap.size, 0, none⟩ 1 1 [_] rfl rfl (cell_one_at (Blk.new W3 _ _)) (by simp [Value.oneCell']) (by unfold maxLen; omega) (by omega) (by have := hoff3.size; simp; omega) ?_; intro v' w6 hown' hgrow _)
          have hdn := HDIF.out.both HX.out HY.out (by have : order x.p y.p = k := HK.out; omega)
          have e1 : oneDif x y = [x.path] := by unfold oneDif; rw [if_neg HXY.out]
          rw [e1] at hdn
          refine ⟨⟨i + 1, j + 1, by congr 1, by congr 1, by omega, by omega, D ++ [x.path], hdn, by simpa using hown', own_off hoff3 hown3 hgrow⟩, by simp only [intOf]; omega⟩
      · obtain rfl : j = m := by omega
        clear c0
        have c0 := HNA.out.path
        go_wp2_with fail
        go_quiet (fail)
        have hoE2 : Off [] wr (wr.drewN nq) := (Off.refl _ _).drewN _
        generalize wr.drewN nq = W2 at *
        clear c0
        have c0 := (HNA.out.off hoE2 habk).path
        have hown2 := ownsRow_off hown hoE2
        have hoff2 := hoff.trans_nil hoE2
        go_wp2_with (at_builtin; refine wpList_append_own _ rfl _ _ 26 rfl w.heap.size 9 i0 (.string ⟨#[]⟩) 1 16 Tryd.underlying26 hi0 hz0 hz1 hz2 rfl (by decide) _ _ _ rfl (hown2.alloc _) ⟨W2.heap.size, 0, none⟩ 1 1 [_] rfl rfl (cell_one_at (Blk.new W2 _ _)) (by simp [Value.oneCell']) (by unfold maxLen; omega) (by omega) (by have := hoff2.size; simp; omega) ?_; intro v' w6 hown' hgrow _)
        refine ⟨⟨i + 1, j, by congr 1, rfl, by omega, by omega, D ++ [x.path], HDIF.out.left HX.out (.inl HM.out.symm), by simpa using hown', own_off hoff2 hown2 hgrow⟩, by simp only [intOf]; omega⟩
    · obtain rfl : i = n := by omega
      by_cases hjm : j < m
      · have hjl : j < B.length := by rw [HM.out]; exact hjm
        obtain ⟨b, rfl, hnb, hbb⟩ := (HB.out.off hoff).get j hjl
        have HY := Lib.hid (List.getElem?_eq_getElem hjl)
        generalize B[j] = y at *
        have hbbk : (b.add (j * 4)).block < wr.heap.size := by rw [add_block]; exact hbb
        have HNB := Lib.hid hnb
        have hjq : ((j : Int) == (m : Int)) = false := beq_eq_false_iff_ne.2 (by omega)
        clear hnb
        go_wp2_with fail
        go_quiet (fail)
        have hoE1 : Off [] wr (wr.drewN nq) := (Off.refl _ _).drewN _
        generalize wr.drewN nq = W1 at *
        go_wp2_with fail
        go_quiet (fail)
        have hoE2 : Off [] wr (W1.drewN nq) := hoE1.drewN _
        generalize W1.drewN nq = W2 at *
        have d0 := (HNB.out.off hoE2 hbbk).path
        have hown2 := ownsRow_off hown hoE2
        have hoff2 := hoff.trans_nil hoE2
        go_wp2_with (at_builtin; refine wpList_append_own _ rfl _ _ 26 rfl w.heap.size 9 i0 (.string ⟨#[]⟩) 1 16 Tryd.underlying26 hi0 hz0 hz1 hz2 rfl (by decide) _ _ _ rfl (hown2.alloc _) ⟨W2.heap.size, 0, none⟩ 1 1 [_] rfl rfl (cell_one_at (Blk.new W2 _ _)) (by simp [Value.oneCell']) (by unfold maxLen; omega) (by omega) (by have := hoff2.size; simp; omega) ?_; intro v' w6 hown' hgrow _)
        refine ⟨⟨i, j + 1, rfl, by congr 1, by omega, by omega, D ++ [y.path], HDIF.out.right HY.out (.inl HN.out.symm), by simpa using hown', own_off hoff2 hown2 hgrow⟩, by simp only [intOf]; omega⟩
      · obtain rfl : j = m := by omega
        go_wp2_with fail
        go_ret
        have hfin : differ A B = D := by
          have := HDIF.out
          rw [← HN.out, ← HM.out] at this
          exact this.fin
        have e0 : differR A B = D := by unfold differR; rw [HOA.out, HOB.out]; exact hfin
        exact ⟨_, rfl, by rw [e0]; exact hown, hoff⟩
end Go.Proofs.YtpaeihdkggbeoaaDoor
