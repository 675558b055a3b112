/- tree.Differ: the walk. Conditions: the tables of unicode/utf8 are laid; no string is longer than Go's can be. -/
import Derived.Test.YtpaeihdkggbeoaaGreatDoorConcat
namespace Go.Proofs.YtpaeihdkggbeoaaGreatDoor
open Go.RowKit Go.Op

theorem Row.tail {w : World} {a : Addr} {x : Node} {t : List Node} (h : Row w (some a) (x :: t)) : Row w (some (a.add 4)) t := fun hne => by
  obtain ⟨a', ha, hb, hn⟩ := h (by simp)
  cases ha
  refine ⟨a.add 4, rfl, by rw [add_block]; exact hb, fun i n hi => ?_⟩
  have := hn (i + 1) n (by simpa using hi)
  rw [Go.Deep.add_add, show 4 + i * 4 = (i + 1) * 4 by omega]
  exact this
theorem Row.head {w : World} {p : Option Addr} {x : Node} {t : List Node} (h : Row w p (x :: t)) : ∃ a, p = some a ∧ NodeAt w a x ∧ a.block < w.heap.size := by
  obtain ⟨a, ha, hb, hn⟩ := h (by simp)
  have := hn 0 x (by simp)
  exact ⟨a, ha, this, hb⟩
/-- how far Differ has come: the rests of both -/
structure DifTo (A B A' B' : List Node) (D : List ByteArray) : Prop where
  eq : differ A B = D ++ differ A' B'
  len : D.length + A'.length + B'.length ≤ 2000
  fa : Fits A'
  fb : Fits B'
theorem Fits.tail {x : Node} {t : List Node} (h : Fits (x :: t)) : Fits t := fun n hn => h n (List.mem_cons_of_mem _ hn)
theorem DifTo.lt {A B A' B' : List Node} {x y : Node} {D : List ByteArray} (h : DifTo A B (x :: A') (y :: B') D) (hc : order x.p y.p < 0) : DifTo A B A' (y :: B') (D ++ [x.path]) :=
  ⟨by rw [h.eq, differ_lt hc]; simp, by have := h.len; simp at this ⊢; omega, h.fa.tail, h.fb⟩
theorem DifTo.gt {A B A' B' : List Node} {x y : Node} {D : List ByteArray} (h : DifTo A B (x :: A') (y :: B') D) (hc : 0 < order x.p y.p) : DifTo A B (x :: A') B' (D ++ [y.path]) :=
  ⟨by rw [h.eq, differ_gt hc]; simp, by have := h.len; simp at this ⊢; omega, h.fa, h.fb.tail⟩
theorem DifTo.both {A B A' B' : List Node} {x y : Node} {D : List ByteArray} (h : DifTo A B (x :: A') (y :: B') D) (hc : order x.p y.p = 0) : DifTo A B A' B' (D ++ oneDif x y) := by
  refine ⟨by rw [h.eq, differ_eq hc]; simp, ?_, h.fa.tail, h.fb.tail⟩
  have := h.len
  rw [List.length_append]
  simp only [List.length_cons] at this
  unfold oneDif
  split <;> simp only [List.length_cons, List.length_nil] <;> omega
def DifEnd (A' B' : List Node) : Prop := A' = [] ∨ B' = []
theorem DifEnd.tail {A' B' : List Node} (h : DifEnd A' B') : differ A' B' = pathsOf (A' ++ B') := by
  rcases h with h | h
  · rw [h, differ_nil]; rfl
  · rw [h, differ_nil2, List.append_nil]
def TRel (w : World) (A B A' B' : List Node) (v : Value) (wr : World) : Prop :=
  ∃ D : List ByteArray, DifTo A B A' B' D ∧ wr.ownsRow w.heap.size 9 1 v D.length (D.map Value.string) ∧ Off [] w wr
/-- a slice of nodes -/
def Sl (w : World) (v : Value) (t : List Node) : Prop := ∃ p c, v = .slice p t.length c ∧ Row w p t ∧ t.length ≤ c ∧ c ≤ maxLen ∧ (p = none → t = [] ∧ c = 0)
theorem Sl.off {w w' : World} {v : Value} {t : List Node} (h : Sl w v t) (ho : Off [] w w') : Sl w' v t := by
  obtain ⟨p, c, h1, h2, h3⟩ := h
  exact ⟨p, c, h1, h2.off ho, h3⟩
theorem Sl.tail {w : World} {a : Addr} {x : Node} {t : List Node} {la c : Nat} (h : Row w (some a) (x :: t)) (hl : t.length = la) (hc : la + 1 ≤ c) (hm : c ≤ maxLen) : Sl w (.slice (if c = 1 then some a else some ⟨a.block, a.off + 4, none⟩) la (c - 1)) t := by
  by_cases h1 : c = 1
  · have h0 : t = [] := List.length_eq_zero_iff.1 (by omega)
    subst h0
    rw [if_pos h1]
    exact ⟨some a, c - 1, by rw [hl], fun h => absurd rfl h, by simp, by omega, fun h => by cases h⟩
  · rw [if_neg h1]
    exact ⟨some (a.add 4), c - 1, by rw [hl]; rfl, h.tail, by omega, by omega, fun h => by cases h⟩
theorem Sl.keep {w : World} {a : Addr} {t : List Node} {la c : Nat} (h : Row w (some a) t) (hl : t.length = la) (hc : la ≤ c) (hm : c ≤ maxLen) : Sl w (.slice (some a) la c) t :=
  ⟨some a, c, by rw [hl], h, by omega, hm, fun h => by cases h⟩
theorem TRel.push {w w6 : World} {A B A' B' : List Node} {D : List ByteArray} {s : ByteArray} {v' : Value} (hd : DifTo A B A' B' (D ++ [s])) (hown : w6.ownsRow w.heap.size 9 1 v' (D.length + 1) (D.map Value.string ++ [.string s])) (ho : Off [] w w6) : TRel w A B A' B' v' w6 :=
  ⟨D ++ [s], hd, by simpa using hown, ho⟩
/-- a list's nodes lie in a block of nodes -/
def BlkN (w : World) (p : Option Addr) : Prop := ∀ a, p = some a → ∃ cur, w.heap[a.block]? = some (.cells cur 40 (0, 0))
theorem BlkN.off {w w' : World} {p : Option Addr} (h : BlkN w p) (ho : Off [] w w') : BlkN w' p := fun a ha => by
  obtain ⟨cur, hc⟩ := h a ha
  exact ⟨cur, (ho.block _ (Array.getElem?_eq_some_iff.1 hc).1 (by simp)).trans hc⟩
theorem keepN {w w6 : World} {p : Option Addr} {T : List Node} {base n : Nat} {v : Value} {xs : List Value} {o : Obj} (hR : Row w p T) (hB : BlkN w p) (hown : w.ownsRow base 9 1 v n xs) (hg : (w.alloc o).grownBy w6 v.ownBlock) : Row w6 p T ∧ BlkN w6 p := by
  have key : ∀ a, p = some a → w6.heap[a.block]? = w.heap[a.block]? := fun a ha => by
    obtain ⟨cur, hc⟩ := hB a ha
    have hlt := (Array.getElem?_eq_some_iff.1 hc).1
    have hne : some a.block ≠ v.ownBlock := by
      rcases hown.2 with ⟨rfl, _⟩ | ⟨g, cap, cu, rfl, _, hh, _⟩
      · intro h; cases h
      · intro h
        have h : some a.block = some g := h
        cases h
        rw [hc] at hh
        injection hh with hh
        injection hh with _ ht
        exact absurd ht (by decide)
    exact (hg.block _ (by simp; omega) hne).trans (Below.heap_alloc w o _ hlt)
  refine ⟨fun hne => ?_, fun a ha => ?_⟩
  · obtain ⟨a, ha, hb, hn⟩ := hR hne
    have hk := key a ha
    have hc : ∀ q : Addr, q.block = a.block → w6.cell? q = w.cell? q := fun q hq => World.cell?_of_block (w := w) (by rw [hq]; exact hk)
    obtain ⟨cur, hcu⟩ := hB a ha
    refine ⟨a, ha, (Array.getElem?_eq_some_iff.1 (hk.trans hcu)).1, fun i n hi => ?_⟩
    have h := hn i n hi
    exact ⟨(hc _ (add_block _ _)).trans h.path, (hc ⟨_, _, none⟩ (add_block a (i * 4))).trans h.kind, (hc ⟨_, _, none⟩ (add_block a (i * 4))).trans h.data, (hc ⟨_, _, none⟩ (add_block a (i * 4))).trans h.mode⟩
  · obtain ⟨cur, hcu⟩ := hB a ha
    exact ⟨cur, (key a ha).trans hcu⟩
theorem own_blkN {W : World} {base : Nat} {p : Option Addr} {m c : Nat} {xs : List Value} (h : W.ownsRow base 40 4 (.slice p m c) m xs) : BlkN W p := fun a ha => by
  rcases h.2 with ⟨h1, _⟩ | ⟨g, cap, cur, h1, _, hh, _⟩
  · cases h1; cases ha
  · cases h1; cases ha; exact ⟨cur, hh⟩
theorem pathsOf_take {T : List Node} {i : Nat} {x : Node} (h : T[i]? = some x) : (pathsOf T).take (i + 1) = (pathsOf T).take i ++ [x.path] := by
  unfold pathsOf; exact take_get (by rw [List.getElem?_map, h]; rfl)
def lenV : Value → Nat
  | .slice _ n _ => n
  | _ => 0
set_option maxRecDepth 100000 in
set_option maxHeartbeats 4000000 in
theorem differ_any (p q : Option Addr) (A B : List Node) (n m c d : Nat) (w : World) (hA : Row w p A) (hB : Row w q B) (hn : A.length = n) (hm : B.length = m) (hc : n ≤ c) (hd : m ≤ d) (hcm : c ≤ maxLen) (hdm : d ≤ maxLen) (hpn : p = none → A = [] ∧ c = 0) (hqn : q = none → B = [] ∧ d = 0) (hFA : Fits A) (hFB : Fits B) (hT : Tabs w) :
    Calls Tryz.prog 17 #[.slice p n c, .slice q m d] w (MadeS (differR A B) w) := by
  have HN := Lib.hid hn
  have HM := Lib.hid hm
  have HA := Lib.hid hA
  have HB := Lib.hid hB
  have HFA := Lib.hid hFA
  have HFB := Lib.hid hFB
  have HPN := Lib.hid hpn
  have HQN := Lib.hid hqn
  clear hn hm hA hB hFA hFB hpn hqn
  cases hokA : okTree A
  · have HOA := Lib.hid hokA
    clear hokA
    go_enter Tryz.func17, Tryz.ntmps17
    go_wp2_with fail
    refine (check_v p A n c _ HA.out HN.out hc (by omega) HFA.out hT 60 (chkV_bad HOA.out)).mono ?_
    rintro e w1 ⟨rfl, ho⟩
    go_wp2_with fail
    go_ret
    have e0 : differR A B = [] := by unfold differR; rw [HOA.out]; rfl
    exact ⟨_, rfl, by rw [e0]; exact ⟨rfl, .inl ⟨rfl, rfl⟩⟩, ho⟩
  have HOA := Lib.hid hokA
  clear hokA
  cases hokB : okTree B
  · have HOB := Lib.hid hokB
    clear hokB
    go_enter Tryz.func17, Tryz.ntmps17
    go_wp2_with fail
    refine (check_v p A n c _ HA.out HN.out hc (by omega) HFA.out hT 0 (chkV_ok HOA.out)).mono ?_
    rintro e w1 ⟨rfl, ho⟩
    go_wp2_with fail
    refine (check_v q B m d _ (HB.out.off ho) HM.out hd (by omega) HFB.out (hT.off ho) 60 (chkV_bad HOB.out)).mono ?_
    rintro e w2 ⟨rfl, ho2⟩
    go_wp2_with fail
    go_ret
    have e0 : differR A B = [] := by unfold differR; rw [HOB.out]; simp
    exact ⟨_, rfl, by rw [e0]; exact ⟨rfl, .inl ⟨rfl, rfl⟩⟩, ho.trans_nil ho2⟩
  have HOB := Lib.hid hokB
  clear hokB
  have hn1 : n ≤ 1000 := by rw [← HN.out]; exact okTree_len HOA.out
  have hm1 : m ≤ 1000 := by rw [← HM.out]; exact okTree_len HOB.out
  obtain ⟨i0, hi0, hz0, hz1, hz2⟩ := info_parts infoStr
  go_enter Tryz.func17, Tryz.ntmps17
  go_wp2_with fail
  refine (check_v p A n c _ HA.out HN.out hc (by omega) HFA.out hT 0 (chkV_ok HOA.out)).mono ?_
  rintro e w1 ⟨rfl, ho⟩
  go_wp2_with fail
  refine (check_v q B m d _ (HB.out.off ho) HM.out hd (by omega) HFB.out (hT.off ho) 0 (chkV_ok HOB.out)).mono ?_
  rintro e w2 ⟨rfl, ho2⟩
  have ho0 := ho.trans_nil ho2
  have hT2 := hT.off ho0
  clear ho ho2
  have HS1 : Hid (Sl w (.slice p n c) A) := Lib.hid ⟨p, c, by rw [HN.out], HA.out, by rw [HN.out]; exact hc, hcm, HPN.out⟩
  have HS2 : Hid (Sl w (.slice q m d) B) := Lib.hid ⟨q, d, by rw [HM.out], HB.out, by rw [HM.out]; exact hd, hdm, HQN.out⟩
  have HST : Hid (DifTo A B A B []) := Lib.hid ⟨rfl, by have h1 := HN.out; have h2 := HM.out; simp; omega, HFA.out, HFB.out⟩
  go_wp2_with fail
  go_loopw [0, 1, 5] (fun x y v wr => ∃ A' B' : List Node, Sl w x A' ∧ Sl w y B' ∧ TRel w A B A' B' v wr) (fun x y _ _ => lenV x + lenV y)
  case atStart => exact ⟨A, B, HS1.out, HS2.out, [], HST.out, ⟨rfl, .inl ⟨rfl, rfl⟩⟩, ho0⟩
  case round =>
    obtain ⟨A', B', ⟨p', c', rfl, hA', hc', hcm', hpn'⟩, ⟨q', d', rfl, hB', hd', hdm', hqn'⟩, D, hdif, hown, hoff⟩ := hrel
    have HDIF := Lib.hid hdif
    have hDl : D.length ≤ 2000 := by have := hdif.len; omega
    clear hdif HS1 HS2 HST hT2
    by_cases hend : A' = [] ∨ B' = []
    · have hend : DifEnd A' B' := hend
      obtain ⟨la, hla⟩ : ∃ la, A'.length = la := ⟨_, rfl⟩
      obtain ⟨lb, hlb⟩ : ∃ lb, B'.length = lb := ⟨_, rfl⟩
      rw [hla] at hc' ⊢
      rw [hlb] at hd' ⊢
      have HAW := Lib.hid hA'
      have HBW := Lib.hid hB'
      by_cases hla0 : 0 < la
      · have hlb0 : decide (0 < lb) = false := decide_eq_false (by
          rcases hend with h | h
          · rw [h] at hla; simp at hla; omega
          · rw [h] at hlb; simp at hlb; omega)
        have HP1 : Hid (PtsAt (wr.alloc (.cells #[.slice p' la c', .slice q' lb d'] 22)) wr.heap.size [(p', A', c'), (q', B', d')]) := Lib.hid (by
          have hoa : Off [] wr (wr.alloc (.cells #[.slice p' la c', .slice q' lb d'] 22)) := (Off.refl _ _).alloc _
          have hb := Blk.new wr 22 #[.slice p' la c', .slice q' lb d']
          refine ⟨hb.lt, fun i x hi => ?_⟩
          match i, hi with
          | 0, hi => cases hi; exact ⟨(hb.cell 0).trans (by rw [← hla]; rfl), (HAW.out.off hoff).off hoa, hpn'⟩
          | 1, hi => cases hi; exact ⟨(hb.cell 1).trans (by rw [← hlb]; rfl), (HBW.out.off hoff).off hoa, hqn'⟩
          | i + 2, hi => simp at hi)
        have HTA : Hid (differ A B = D ++ pathsOf (A' ++ B')) := Lib.hid (by rw [HDIF.out.eq, hend.tail])
        have HNI : Hid (nodesIn [(p', A', c'), (q', B', d')] = A' ++ B') := Lib.hid (by simp [nodesIn])
        have hbig : la + lb + D.length ≤ 2000 := by have := HDIF.out.len; omega
        have HTL : Hid ((A' ++ B').length = la + lb) := Lib.hid (by rw [List.length_append, hla, hlb])
        clear hA' hB' hpn' hqn' hla hlb hend
        go_wp2_with fail
        refine (concat_any wr.heap.size 2 [(p', A', c'), (q', B', d')] _ HP1.out (by simp) (by rw [HNI.out, HTL.out]; omega)).mono ?_
        rintro e W1 ⟨v2, rfl, hown2, ho2⟩
        rw [HNI.out] at hown2
        generalize A' ++ B' = T at *
        obtain ⟨p2, c2, rfl, hR2, hc2, _, hpb⟩ := own_row hown2
        rw [HTL.out] at hc2 hown2 ⊢
        have hB2 := own_blkN hown2
        have hoff1 : Off [] wr W1 := ((Off.refl _ _).alloc _).trans_nil ho2
        have hown1 := ownsRow_off hown hoff1
        have hoff3 := hoff.trans_nil hoff1
        generalize la + lb = k at *
        clear ho2 hown2 hoff1 hown hoff hpb
        go_wp2_with fail
        go_loopw [78, 5] (fun x v w2 => ∃ i : Nat, x = .int .i64 i ∧ i ≤ k ∧ w2.ownsRow w.heap.size 9 1 v (D.length + i) ((D ++ (pathsOf T).take i).map Value.string) ∧ Off [] w w2 ∧ Row w2 p2 T ∧ BlkN w2 p2) (fun x _ _ => k - (intOf x).toNat)
        case atStart => exact ⟨0, rfl, by omega, by simpa using hown1, hoff3, hR2, hB2⟩
        case round =>
          clear hown1 hoff3 hR2 hB2
          obtain ⟨i, rfl, hi, hown, hoff, hR, hB⟩ := hrel
          by_cases hik : i < k
          · have hil : i < T.length := by rw [HTL.out]; exact hik
            obtain ⟨a, rfl, hna, hab⟩ := hR.get i hil
            have HST := Lib.hid (pathsOf_take (List.getElem?_eq_getElem hil))
            generalize T[i] = nd at *
            have c0 := hna.path
            have c1 := hna.kind
            have c2 := hna.data
            have c3 := hna.mode
            clear hna
            have HO0 : Hid (Off [] wr (wr.alloc (.cells (ndCells nd) 40))) := Lib.hid ((Off.refl _ _).alloc _)
            have hown0 := ownsRow_off hown HO0.out
            have hoff0 := hoff.trans_nil HO0.out
            have HKN := Lib.hid (And.intro (hR.off HO0.out) (hB.off HO0.out))
            unfold ndCells at hown0 hoff0 HKN
            clear hR hB hown hoff
            go_wp2_with (at_builtin; refine wpList_append_own _ rfl _ _ 46 rfl w.heap.size 9 i0 (.string ⟨#[]⟩) 1 16 Tryz.underlying46 hi0 hz0 hz1 hz2 rfl (by decide) _ _ _ rfl (hown0.alloc _) ⟨wr.heap.size + 1, 0, none⟩ 1 1 [_] rfl rfl (cell_one_at (Blk.new1 wr _ _ _)) (by simp [Value.oneCell']) (by unfold maxLen; omega) (by omega) (by have := hoff0.size; simp at this ⊢; omega) ?_; intro v' w6 hown' hgrow _)
            have hkn := keepN HKN.out.1 HKN.out.2 hown0 hgrow
            refine ⟨⟨i + 1, by congr 1, by omega, ?_, own_off hoff0 hown0 hgrow, hkn.1, hkn.2⟩, by simp only [intOf]; omega⟩
            rw [HST.out]
            simpa [Nat.add_assoc] using hown'
          · obtain rfl : i = k := by omega
            go_wp2_with fail
            go_ret
            have e0 : differR A B = D ++ (pathsOf T).take i := by
              unfold differR
              rw [HOA.out, HOB.out, List.take_of_length_le (by unfold pathsOf; rw [List.length_map, HTL.out]; exact Nat.le_refl _)]
              exact HTA.out
            have e1 : (differR A B).length = D.length + i := by
              rw [e0, List.length_append, List.length_take, pathsOf, List.length_map, HTL.out]; omega
            exact ⟨_, rfl, by rw [e1, e0]; exact hown, hoff⟩
      · have hla1 : decide (0 < la) = false := decide_eq_false (by omega)
        clear hla0
        have HP1 : Hid (PtsAt (wr.alloc (.cells #[.slice p' la c', .slice q' lb d'] 22)) wr.heap.size [(p', A', c'), (q', B', d')]) := Lib.hid (by
          have hoa : Off [] wr (wr.alloc (.cells #[.slice p' la c', .slice q' lb d'] 22)) := (Off.refl _ _).alloc _
          have hb := Blk.new wr 22 #[.slice p' la c', .slice q' lb d']
          refine ⟨hb.lt, fun i x hi => ?_⟩
          match i, hi with
          | 0, hi => cases hi; exact ⟨(hb.cell 0).trans (by rw [← hla]; rfl), (HAW.out.off hoff).off hoa, hpn'⟩
          | 1, hi => cases hi; exact ⟨(hb.cell 1).trans (by rw [← hlb]; rfl), (HBW.out.off hoff).off hoa, hqn'⟩
          | i + 2, hi => simp at hi)
        have HTA : Hid (differ A B = D ++ pathsOf (A' ++ B')) := Lib.hid (by rw [HDIF.out.eq, hend.tail])
        have HNI : Hid (nodesIn [(p', A', c'), (q', B', d')] = A' ++ B') := Lib.hid (by simp [nodesIn])
        have hbig : la + lb + D.length ≤ 2000 := by have := HDIF.out.len; omega
        have HTL : Hid ((A' ++ B').length = la + lb) := Lib.hid (by rw [List.length_append, hla, hlb])
        clear hA' hB' hpn' hqn' hla hlb hend
        go_wp2_with fail
        refine (concat_any wr.heap.size 2 [(p', A', c'), (q', B', d')] _ HP1.out (by simp) (by rw [HNI.out, HTL.out]; omega)).mono ?_
        rintro e W1 ⟨v2, rfl, hown2, ho2⟩
        rw [HNI.out] at hown2
        generalize A' ++ B' = T at *
        obtain ⟨p2, c2, rfl, hR2, hc2, _, hpb⟩ := own_row hown2
        rw [HTL.out] at hc2 hown2 ⊢
        have hB2 := own_blkN hown2
        have hoff1 : Off [] wr W1 := ((Off.refl _ _).alloc _).trans_nil ho2
        have hown1 := ownsRow_off hown hoff1
        have hoff3 := hoff.trans_nil hoff1
        generalize la + lb = k at *
        clear ho2 hown2 hoff1 hown hoff hpb
        go_wp2_with fail
        go_loopw [78, 5] (fun x v w2 => ∃ i : Nat, x = .int .i64 i ∧ i ≤ k ∧ w2.ownsRow w.heap.size 9 1 v (D.length + i) ((D ++ (pathsOf T).take i).map Value.string) ∧ Off [] w w2 ∧ Row w2 p2 T ∧ BlkN w2 p2) (fun x _ _ => k - (intOf x).toNat)
        case atStart => exact ⟨0, rfl, by omega, by simpa using hown1, hoff3, hR2, hB2⟩
        case round =>
          clear hown1 hoff3 hR2 hB2
          obtain ⟨i, rfl, hi, hown, hoff, hR, hB⟩ := hrel
          by_cases hik : i < k
          · have hil : i < T.length := by rw [HTL.out]; exact hik
            obtain ⟨a, rfl, hna, hab⟩ := hR.get i hil
            have HST := Lib.hid (pathsOf_take (List.getElem?_eq_getElem hil))
            generalize T[i] = nd at *
            have c0 := hna.path
            have c1 := hna.kind
            have c2 := hna.data
            have c3 := hna.mode
            clear hna
            have HO0 : Hid (Off [] wr (wr.alloc (.cells (ndCells nd) 40))) := Lib.hid ((Off.refl _ _).alloc _)
            have hown0 := ownsRow_off hown HO0.out
            have hoff0 := hoff.trans_nil HO0.out
            have HKN := Lib.hid (And.intro (hR.off HO0.out) (hB.off HO0.out))
            unfold ndCells at hown0 hoff0 HKN
            clear hR hB hown hoff
            go_wp2_with (at_builtin; refine wpList_append_own _ rfl _ _ 46 rfl w.heap.size 9 i0 (.string ⟨#[]⟩) 1 16 Tryz.underlying46 hi0 hz0 hz1 hz2 rfl (by decide) _ _ _ rfl (hown0.alloc _) ⟨wr.heap.size + 1, 0, none⟩ 1 1 [_] rfl rfl (cell_one_at (Blk.new1 wr _ _ _)) (by simp [Value.oneCell']) (by unfold maxLen; omega) (by omega) (by have := hoff0.size; simp at this ⊢; omega) ?_; intro v' w6 hown' hgrow _)
            have hkn := keepN HKN.out.1 HKN.out.2 hown0 hgrow
            refine ⟨⟨i + 1, by congr 1, by omega, ?_, own_off hoff0 hown0 hgrow, hkn.1, hkn.2⟩, by simp only [intOf]; omega⟩
            rw [HST.out]
            simpa [Nat.add_assoc] using hown'
          · obtain rfl : i = k := by omega
            go_wp2_with fail
            go_ret
            have e0 : differR A B = D ++ (pathsOf T).take i := by
              unfold differR
              rw [HOA.out, HOB.out, List.take_of_length_le (by unfold pathsOf; rw [List.length_map, HTL.out]; exact Nat.le_refl _)]
              exact HTA.out
            have e1 : (differR A B).length = D.length + i := by
              rw [e0, List.length_append, List.length_take, pathsOf, List.length_map, HTL.out]; omega
            exact ⟨_, rfl, by rw [e1, e0]; exact hown, hoff⟩
    · obtain ⟨x, A2, rfl⟩ := List.exists_cons_of_ne_nil (fun h => hend (.inl h))
      obtain ⟨y, B2, rfl⟩ := List.exists_cons_of_ne_nil (fun h => hend (.inr h))
      clear hend
      obtain ⟨a, rfl, hna, hab⟩ := (hA'.off hoff).head
      obtain ⟨b, rfl, hnb, hbb⟩ := (hB'.off hoff).head
      have hxs := (HDIF.out.fa x (by simp)).1
      have hys := (HDIF.out.fb y (by simp)).1
      simp only [List.length_cons] at hc' hd' ⊢
      obtain ⟨la, hla⟩ : ∃ la, A2.length = la := ⟨_, rfl⟩
      obtain ⟨lb, hlb⟩ : ∃ lb, B2.length = lb := ⟨_, rfl⟩
      rw [hla] at hc' ⊢
      rw [hlb] at hd' ⊢
      have HLA := Lib.hid hla
      have HLB := Lib.hid hlb
      have HAW := Lib.hid hA'
      have HBW := Lib.hid hB'
      have HNA := Lib.hid hna
      have HNB := Lib.hid hnb
      have c0 := hna.path
      have d0 := hnb.path
      have hbig : la ≤ 2000 ∧ lb ≤ 2000 := by have := HDIF.out.len; simp at this; omega
      obtain ⟨k, hk⟩ : ∃ k, order (str x.path) (str y.path) = k := ⟨_, rfl⟩
      have HK := Lib.hid hk
      clear hk hna hnb hla hlb hA' hB' hpn' hqn'
      have hx := fun (x : World) (p : Addr) (hp : p.block < wr.heap.size) => ext_cell hp x
      by_cases hk0 : k < 0
      · go_wp2_with fail
        refine wp_region_ext (by kernel_rfl) (by kernel_rfl) ?_
        repeat (go_big_quiet_step (first
          | (go_at_call 33; exact Calls.ext_of (order_v x.path y.path _ hxs hys k HK.out))))
        refine wpQuiet_nil ?_
        rintro W1 ⟨x1, rfl⟩
        have hoE1 := ext_off wr x1
        clear hx c0 d0
        generalize ext wr x1 = W1 at *
        have hna1 := HNA.out.off hoE1 hab
        have hnb1 := HNB.out.off hoE1 hbb
        have hab1 := Nat.lt_of_lt_of_le hab hoE1.size
        have hbb1 := Nat.lt_of_lt_of_le hbb hoE1.size
        clear hna1 hnb1
        go_wp2_with fail
        go_quiet (fail)
        have hoE2 : Off [] wr (W1.drewN nq) := hoE1.drewN _
        generalize W1.drewN nq = W2 at *
        have hown2 := ownsRow_off hown hoE2
        have hoff2 := hoff.trans_nil hoE2
        have c0 := (HNA.out.off hoE2 hab).path
        go_wp2_with (at_builtin; refine wpList_append_own _ rfl _ _ 46 rfl w.heap.size 9 i0 (.string ⟨#[]⟩) 1 16 Tryz.underlying46 hi0 hz0 hz1 hz2 rfl (by decide) _ _ _ rfl (hown2.alloc _) ⟨W2.heap.size, 0, none⟩ 1 1 [_] rfl rfl (cell_one_at (Blk.new W2 _ _)) (by simp [Value.oneCell']) (by unfold maxLen; omega) (by omega) (by have := hoff2.size; simp; omega) ?_; intro v' w6 hown' hgrow _)
        have ho6 : Off [] w w6 := own_off hoff2 hown2 hgrow
        exact ⟨⟨A2, y :: B2, Sl.tail HAW.out HLA.out (by omega) hcm', Sl.keep HBW.out (by simp [HLB.out]) (by omega) hdm', TRel.push (HDIF.out.lt (by have : order x.p y.p = k := HK.out; omega)) hown' ho6⟩, by simp only [lenV]; omega⟩
      have hkd : decide (k < 0) = false := decide_eq_false hk0
      by_cases hk1 : 0 < k
      · have hkz : (k == 0) = false := beq_eq_false_iff_ne.2 (by omega)
        go_wp2_with fail
        refine wp_region_ext (by kernel_rfl) (by kernel_rfl) ?_
        repeat (go_big_quiet_step (first
          | (go_at_call 33; exact Calls.ext_of (order_v x.path y.path _ hxs hys k HK.out))))
        refine wpQuiet_nil ?_
        rintro W1 ⟨x1, rfl⟩
        have hoE1 := ext_off wr x1
        clear hx c0 d0
        generalize ext wr x1 = W1 at *
        have hna1 := HNA.out.off hoE1 hab
        have hnb1 := HNB.out.off hoE1 hbb
        have hab1 := Nat.lt_of_lt_of_le hab hoE1.size
        have hbb1 := Nat.lt_of_lt_of_le hbb hoE1.size
        clear hna1 hnb1
        go_wp2_with fail
        go_quiet (fail)
        have hoE2 : Off [] wr (W1.drewN nq) := hoE1.drewN _
        generalize W1.drewN nq = W2 at *
        have hown2 := ownsRow_off hown hoE2
        have hoff2 := hoff.trans_nil hoE2
        have d0 := (HNB.out.off hoE2 hbb).path
        go_wp2_with (at_builtin; refine wpList_append_own _ rfl _ _ 46 rfl w.heap.size 9 i0 (.string ⟨#[]⟩) 1 16 Tryz.underlying46 hi0 hz0 hz1 hz2 rfl (by decide) _ _ _ rfl (hown2.alloc _) ⟨W2.heap.size, 0, none⟩ 1 1 [_] rfl rfl (cell_one_at (Blk.new W2 _ _)) (by simp [Value.oneCell']) (by unfold maxLen; omega) (by omega) (by have := hoff2.size; simp; omega) ?_; intro v' w6 hown' hgrow _)
        have ho6 : Off [] w w6 := own_off hoff2 hown2 hgrow
        exact ⟨⟨x :: A2, B2, Sl.keep HAW.out (by simp [HLA.out]) (by omega) hcm', Sl.tail HBW.out HLB.out (by omega) hdm', TRel.push (HDIF.out.gt (by have : order x.p y.p = k := HK.out; omega)) hown' ho6⟩, by simp only [lenV]; omega⟩
      have hkz : (k == 0) = true := beq_iff_eq.2 (by omega)
      by_cases hxy : x = y
      · have HD := Lib.hid (decide_eq_true hxy)
        have HXY := Lib.hid hxy
        clear hxy
        go_wp2_with fail
        refine wp_region_ext (by kernel_rfl) (by kernel_rfl) ?_
        repeat (go_big_quiet_step (first
          | (go_at_call 33; exact Calls.ext_of (order_v x.path y.path _ hxs hys k HK.out))))
        refine wpQuiet_nil ?_
        rintro W1 ⟨x1, rfl⟩
        have hoE1 := ext_off wr x1
        clear hx c0 d0
        generalize ext wr x1 = W1 at *
        have hna1 := HNA.out.off hoE1 hab
        have hnb1 := HNB.out.off hoE1 hbb
        have hab1 := Nat.lt_of_lt_of_le hab hoE1.size
        have hbb1 := Nat.lt_of_lt_of_le hbb hoE1.size
        have c0 := hna1.path
        have c1 := hna1.kind
        have c2 := hna1.data
        have c3 := hna1.mode
        have d0 := hnb1.path
        have d1 := hnb1.kind
        have d2 := hnb1.data
        have d3 := hnb1.mode
        clear hna1 hnb1
        have heq := eqNode x y
        have hgd : Tryz.prog.eqGuardType Tryz.prog.depth 40 = false := by kernel_rfl
        rw [HD.out] at heq
        go_wp2_with fail
        go_quiet (fail)
        have hoE2 : Off [] wr (W1.drewN nq) := hoE1.drewN _
        generalize W1.drewN nq = W2 at *
        have hown2 := ownsRow_off hown hoE2
        have hoff2 := hoff.trans_nil hoE2
        clear c0 c1 c2 c3 d0 d1 d2 d3 heq
        go_wp2_with fail
        have hdn := HDIF.out.both (by have : order x.p y.p = k := HK.out; omega)
        have e1 : oneDif x y = [] := by unfold oneDif; rw [if_pos HXY.out]
        rw [e1, List.append_nil] at hdn
        exact ⟨⟨A2, B2, Sl.tail HAW.out HLA.out (by omega) hcm', Sl.tail HBW.out HLB.out (by omega) hdm', D, hdn, hown2, hoff2⟩, by simp only [lenV]; omega⟩
      · have HD := Lib.hid (decide_eq_false hxy)
        have HXY := Lib.hid hxy
        clear hxy
        go_wp2_with fail
        refine wp_region_ext (by kernel_rfl) (by kernel_rfl) ?_
        repeat (go_big_quiet_step (first
          | (go_at_call 33; exact Calls.ext_of (order_v x.path y.path _ hxs hys k HK.out))))
        refine wpQuiet_nil ?_
        rintro W1 ⟨x1, rfl⟩
        have hoE1 := ext_off wr x1
        clear hx c0 d0
        generalize ext wr x1 = W1 at *
        have hna1 := HNA.out.off hoE1 hab
        have hnb1 := HNB.out.off hoE1 hbb
        have hab1 := Nat.lt_of_lt_of_le hab hoE1.size
        have hbb1 := Nat.lt_of_lt_of_le hbb hoE1.size
        have c0 := hna1.path
        have c1 := hna1.kind
        have c2 := hna1.data
        have c3 := hna1.mode
        have d0 := hnb1.path
        have d1 := hnb1.kind
        have d2 := hnb1.data
        have d3 := hnb1.mode
        clear hna1 hnb1
        have heq := eqNode x y
        have hgd : Tryz.prog.eqGuardType Tryz.prog.depth 40 = false := by kernel_rfl
        rw [HD.out] at heq
        go_wp2_with fail
        go_quiet (fail)
        have hoE2 : Off [] wr (W1.drewN nq) := hoE1.drewN _
        generalize W1.drewN nq = W2 at *
        have hown2 := ownsRow_off hown hoE2
        have hoff2 := hoff.trans_nil hoE2
        clear c0 c1 c2 c3 d0 d1 d2 d3 heq
        have c0 := (HNA.out.off hoE2 hab).path
        go_wp2_with (at_builtin; refine wpList_append_own _ rfl _ _ 46 rfl w.heap.size 9 i0 (.string ⟨#[]⟩) 1 16 Tryz.underlying46 hi0 hz0 hz1 hz2 rfl (by decide) _ _ _ rfl (hown2.alloc _) ⟨W2.heap.size, 0, none⟩ 1 1 [_] rfl rfl (cell_one_at (Blk.new W2 _ _)) (by simp [Value.oneCell']) (by unfold maxLen; omega) (by omega) (by have := hoff2.size; simp; omega) ?_; intro v' w6 hown' hgrow _)
        have ho6 : Off [] w w6 := own_off hoff2 hown2 hgrow
        have hdn := HDIF.out.both (by have : order x.p y.p = k := HK.out; omega)
        have e1 : oneDif x y = [x.path] := by unfold oneDif; rw [if_neg HXY.out]
        rw [e1] at hdn
        exact ⟨⟨A2, B2, Sl.tail HAW.out HLA.out (by omega) hcm', Sl.tail HBW.out HLB.out (by omega) hdm', TRel.push hdn hown' ho6⟩, by simp only [lenV]; omega⟩
end Go.Proofs.YtpaeihdkggbeoaaGreatDoor
