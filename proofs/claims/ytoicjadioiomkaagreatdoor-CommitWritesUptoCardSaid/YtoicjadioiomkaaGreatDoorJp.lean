/- Texts of this claim, one behind the other: Com16 Opn Out Com17 Com18 DOff. Conditions: what each lemma states. -/
import Derived.Test.YtoicjadioiomkaaGreatDoorJo
import Derived.Laws.IdiomStrings
import Derived.Test.YtoicjadioiomkaaGreatDoorJl
import Derived.Test.YtoicjadioiomkaaGreatDoorJn
import Derived.Test.YtoicjadioiomkaaGreatDoorJi
import Derived.Test.YtoicjadioiomkaaGreatDoorJh
set_option linter.unusedVariables false
set_option linter.unusedSimpArgs false
namespace Go.Proofs.YtoicjadioiomkaaGreatDoor
section
open Go.RowKit Go.Op
theorem HS.get {D : PDisk} {n : Nat} {s : ByteArray} (h : HS D (some s)) (hk : Ok D n) : ∃ nd i z tm, (D.get arcN).1 = (0, nd, i, z, tm) ∧ nd.data = s ∧ HS (D.get arcN).2 (some s) := by
  have hg := h.g.get hk arcN
  rcases h.q.arc with ⟨h1, _⟩ | ⟨s', m, h1, h2, h3, h4⟩
  · cases h1
  injection h1 with h1
  rw [get_file okArcN h.q.on h.q.fates h2] at hg ⊢; exact ⟨_, _, _, _, rfl, h4.trans h1.symm, h.q.tick _ _ _, hg⟩
section
variable {w0 w : World} {pa n pb m : Nat} {A B : PDisk} {K : List Nat}
theorem TwoP.getA (h : TwoP w0 w pa A n pb B m K) (hn : n ≤ 1000000) (path : ByteArray) (hs : path.size ≤ 9223372036854775807) :
    Calls Tryz.prog 43 #[.pointer (some ⟨pa, 0, none⟩), .string path] w fun e w' => e = .returned (getVal (A.get path).1) ∧ TwoP w0 w' pa (A.get path).2 (n + 1) pb B m K ∧ Kep K w w' :=
  h.callA fun G hG => dget_call pa n G A path w hG hn hs
theorem TwoP.writeA (h : TwoP w0 w pa A n pb B m K) (hn : n ≤ 1000000) (path data : ByteArray) (mode : Int) (hs : path.size ≤ 9223372036854775807) :
    Calls Tryz.prog 33 #[.pointer (some ⟨pa, 0, none⟩), .string path, .string data, .int .i64 mode] w fun e w' => e = .returned (.int .i64 (A.write path data mode).1) ∧ TwoP w0 w' pa (A.write path data mode).2 (n + 2) pb B m K ∧ Kep K w w' :=
  h.callA fun G hG => dwrite_call pa n G A path data mode w hG hn hs
end
theorem tell_hit {x : Arc} (hx : ArcOk x) (hl : x.tree.length ≤ 30) {i : Nat} {v : UInt8} (hi : i < (encV x).size) (hv : (str (encV x))[i]? ≠ some v) :
    TellA (some ⟨((str (encV x)).set i v).toArray⟩) none ∧ (⟨((str (encV x)).set i v).toArray⟩ : ByteArray).size ≤ 65536 := by
  have h1 := enc_size hx (by omega); have h2 : str (encV x) = packB (bodyB x) := rfl
  have h3 : (⟨((str (encV x)).set i v).toArray⟩ : ByteArray).size = (encV x).size := by
    show ((str (encV x)).set i v).toArray.size = _
    rw [List.size_toArray, List.length_set]; exact str_size _
  refine ⟨.inr ⟨_, rfl, .inl ⟨rfl, by omega, ?_⟩⟩, by omega⟩
  show oneV ((packB (bodyB x)).set i v) = none
  refine oneV_hit (by have := bodyB_le hx; omega) ?_ hv
  rw [← h2, str_size]; exact hi
set_option maxRecDepth 100000 in
set_option maxHeartbeats 16000000 in
theorem cdamaged_any (x y : Arc) (v0 v1 v2 v3 u0 u1 u2 u3 : Value) (at_ by_ : Int) (w : World) (hx : ArcAt w (.agg #[v0, v1, v2, v3]) x) (hy : ArcAt w (.agg #[u0, u1, u2, u3]) y) (hT : Tabs w) (hby : 0 ≤ by_ ∧ by_ < 256) :
    Calls Tryz.prog 7 #[.agg #[v0, v1, v2, v3, u0, u1, u2, u3], .int .i64 at_, .int .u8 by_] w fun e w' => e = .returned (.bool true) ∧ Off [] w w' := by
  have HXA := Lib.hid (And.intro hx hy); obtain ⟨⟨tx, cx, sx, dx, e1, _⟩, _, hlx, _⟩ := hx; obtain ⟨⟨ty, cy, sy, dy, e2, _⟩, _, hly, _⟩ := hy; simp only [Value.agg.injEq] at e1 e2; simp only [Array.mk.injEq, List.cons.injEq, and_true] at e1 e2; obtain ⟨rfl, rfl, rfl, rfl⟩ := e1; obtain ⟨rfl, rfl, rfl, rfl⟩ := e2; have HT := Lib.hid hT; clear hT
  obtain ⟨lx, hlx'⟩ : ∃ lx, x.tree.length = lx := ⟨_, rfl⟩
  obtain ⟨ly, hly'⟩ : ∃ ly, y.tree.length = ly := ⟨_, rfl⟩
  rw [hlx'] at hlx HXA; rw [hly'] at hly HXA; rw [hlx', hly']; have HLN := Lib.hid (And.intro hlx' (And.intro hly' (And.intro hlx.1 hly.1))); clear hlx' hly' hlx hly
  go_enter Tryz.func7, Tryz.ntmps7
  go_upto_region 1 with fail
  obtain ⟨xs, hxs⟩ : ∃ xs : Array Value, xs = #[.string x.pair, .int .i64 x.serial, .slice tx lx cx, .slice sx x.stamps.length dx, .string y.pair, .int .i64 y.serial, .slice ty ly cy, .slice sy y.stamps.length dy] := ⟨_, rfl⟩
  refine code_gen (fun W => Hid (Off [] w W ∧ Blk W w.heap.size 88 xs)) (Lib.hid ⟨(Off.refl _ _).alloc _, by rw [hxs]; exact Blk.new w _ _⟩) ?_
  rintro W1 HW1
  go_wp2_with fail
  refine (awake20_any W1 (HT.out.off HW1.out.1)).mono ?_
  rintro e w2 ⟨rfl, ho2⟩; have HW2 := Lib.hid (And.intro (HW1.out.1.trans_nil ho2) (HW1.out.2.off ho2 (by simp))); clear HW1 ho2; subst hxs; have c1 := HW2.out.2.cell; have l1 := HW2.out.2.lt; obtain ⟨sm, hsm⟩ : ∃ sm, (decide (lx ≤ 30) && decide (ly ≤ 30)) = sm := ⟨_, rfl⟩
  have HSM := Lib.hid hsm; clear hsm
  go_wp2_with fail
  refine (small_any _ _ _ _ _ _ tx ty lx cx ly cy w2 (by have := HLN.out; omega) (by have := HLN.out; omega) sm HSM.out).mono ?_
  rintro e w3 ⟨rfl, ho3⟩; have HW3 := Lib.hid (And.intro (HW2.out.1.trans_nil ho3) (HW2.out.2.off ho3 (by simp))); clear HW2 ho3 c1 l1
  cases sm
  · go_wp2_with fail
    go_ret
    exact ⟨rfl, HW3.out.1⟩
  by_cases hb0 : by_ = 0
  · go_wp2_with fail
    go_ret
    exact ⟨rfl, HW3.out.1⟩
  have HLE := Lib.hid (show x.tree.length ≤ 30 ∧ y.tree.length ≤ 30 from by
    have h1 := HSM.out; have h2 := HLN.out; simp only [Bool.and_eq_true, decide_eq_true_eq] at h1; omega)
  go_wp2_with fail
  refine (opened0 (Off.refl [] w3) (HT.out.off HW3.out.1)).mono ?_
  rintro e w4 ⟨ga, rfl, hr1⟩; have H4 := Lib.hid hr1; clear hr1
  go_wp2_with fail
  refine (opened0 (Off.refl [] w4) (HT.out.off (HW3.out.1.trans_nil H4.out.since))).mono ?_
  rintro e w5 ⟨gb, rfl, hr2⟩; have H5 := Lib.hid (And.intro (TwoP.back (K := [w.heap.size]) (TwoP.make H4.out hr2 (HT.out.off HW3.out.1)) HW3.out.1 HT.out (fun b hb => by
      have a1 := HW3.out.2.lt; simp only [List.mem_cons, List.not_mem_nil, or_false] at hb; omega)) (HW3.out.2.off (H4.out.since.trans_nil hr2.since) (by simp)))
  clear hr2 H4 HW3; obtain ⟨mt, hmt⟩ : ∃ mt, matchV x y = mt := ⟨_, rfl⟩
  have HM := Lib.hid hmt; clear hmt
  go_upto_region 6 with fail
  have c1 := H5.out.2.cell; have l1 := H5.out.2.lt
  have HOX := Lib.hid (show ∀ W, Off [] w5 W → ArcAt W (.agg #[.string x.pair, .int .i64 x.serial, .slice tx lx cx, .slice sx x.stamps.length dx]) x ∧ ArcAt W (.agg #[.string y.pair, .int .i64 y.serial, .slice ty ly cy, .slice sy y.stamps.length dy]) y from fun W ho => ⟨HXA.out.1.off (H5.out.1.since.trans_nil ho), HXA.out.2.off (H5.out.1.since.trans_nil ho)⟩)
  cases mt
  · have HC := Lib.hid (fun (W : World) (ho : Off [] w5 W) => commit_no ga gb _ _ x y W (HOX.out W ho).1 (HOX.out W ho).2 (by have := HLE.out; omega) (by have := HLE.out; omega) (HT.out.off (H5.out.1.since.trans_nil ho)) HM.out)
    go_wp2_with fail
    refine (HC.out _ (Off.refl [] _)).mono ?_
    rintro e w6 ⟨rfl, ho6⟩; have HO6 := Lib.hid (H5.out.1.since.trans_nil ho6); clear ho6 c1 l1 H5 HC HOX
    go_wp2_with fail
    go_ret
    exact ⟨rfl, HO6.out⟩
  have HC := Lib.hid (fun (W : World) (ho : Off [] w5 W) => commit_two (H5.out.1.off ho) (HOX.out W ho).1 (HOX.out W ho).2 HLE.out.1 HLE.out.2 HM.out); have HQ := Lib.hid (And.intro (HC.out _ (Off.refl [] w5)).1 (And.intro (HC.out _ (Off.refl [] w5)).2.1 (And.intro (HC.out _ (Off.refl [] w5)).2.2.1 (HC.out _ (Off.refl [] w5)).2.2.2.1)))
  have HC := Lib.hid (fun (W : World) (ho : Off [] w5 W) => (HC.out W ho).2.2.2.2)
  go_wp2_with fail
  refine (HC.out _ (Off.refl [] _)).mono ?_
  rintro e w6 ⟨rfl, hT6, hk6⟩; obtain ⟨nd, ino, sz, tm, hg1, hg2, hg3⟩ := HQ.out.2.2.1.get hT6.okA; have HG := Lib.hid (hT6.getA (by omega) arcN (by decide)); obtain ⟨A1, hA1⟩ : ∃ A1, ((comD x).get arcN).2 = A1 := ⟨_, rfl⟩
  rw [hg1, hA1] at HG; rw [hA1] at hg3; unfold getVal arcN at HG; dsimp only at HG; have HB6 := Lib.hid (hk6.blk H5.out.2 (by simp)); have HA1 := Lib.hid (And.intro hg2 (And.intro hg3 HQ.out.2.2.2)); clear hT6 hk6 c1 l1 H5 HC HOX hg1 hg2 hg3 hA1; obtain ⟨B1, hB1⟩ : ∃ B1, comD y = B1 := ⟨_, rfl⟩
  rw [hB1] at HG HA1; clear hB1
  go_wp2_with fail
  refine HG.out.mono ?_
  rintro e w7 ⟨rfl, hT7, hk7⟩; have HS7 := Lib.hid (And.intro hT7 (hk7.blk HB6.out (by simp))); clear hT7 hk7 HG HB6
  go_upto_region 9 with fail
  refine code_gen (fun W => Hid (TwoP w W ga A1 23 gb B1 22 [w.heap.size] ∧ Blk W w.heap.size 88 #[.string x.pair, .int .i64 x.serial, .slice tx lx cx, .slice sx x.stamps.length dx, .string y.pair, .int .i64 y.serial, .slice ty ly cy, .slice sy y.stamps.length dy] ∧ Blk W w7.heap.size 30 #[.string nd.path, .int .i64 nd.kind, .string nd.data, .int .i64 nd.mode])) (Lib.hid ⟨HS7.out.1.off (((Off.refl _ _).alloc _).alloc _), (HS7.out.2.alloc _).alloc _, (Blk.new w7 _ _).alloc _⟩) ?_
  rintro W8 HW8; obtain ⟨g9, hg9⟩ : ∃ g9, w7.heap.size = g9 := ⟨_, rfl⟩
  rw [hg9] at HW8; rw [hg9]; clear hg9 HS7; have c9 := HW8.out.2.2.cell; have l9 := HW8.out.2.2.lt
  by_cases h1 : at_ < 0
  · go_wp2_with fail
    go_ret
    exact ⟨rfl, HW8.out.1.since⟩
  by_cases h2 : (nd.data.size : Int) ≤ at_
  · go_wp2_with fail
    go_ret
    exact ⟨rfl, HW8.out.1.since⟩
  obtain ⟨i, rfl⟩ : ∃ i : Nat, at_ = i := ⟨at_.toNat, by omega⟩
  have hi : i < nd.data.size := by omega
  obtain ⟨cap, hcap⟩ : ∃ cap, grownCap W8 nd.data.size 0 5 = cap := ⟨_, rfl⟩
  have hconv := run_bytes_of_string (P := Tryz.prog) W8 9 96 5 nd.data Tryz.underlying9 Tryz.underlying96 Tryz.underlying5; rw [hcap] at hconv; obtain ⟨C, hC⟩ : ∃ C, bytesRow nd.data cap = C := ⟨_, rfl⟩
  rw [hC] at hconv; have HC := Lib.hid hC; clear hcap hC
  go_upto_region 12 with fail
  clear hconv; have HBY := Lib.hid (show ∀ j (hj : j < nd.data.size), (W8.drew.alloc (.cells C 5 (C.size, C.size + 1))).cell? ⟨W8.heap.size, j, none⟩ = some (.int .u8 ((nd.data.data[j]'hj).toNat : Int)) ∧ (W8.drew.alloc (.cells C 5 (C.size, C.size + 1))).frozen? ⟨W8.heap.size, j, none⟩ = false from fun j hj => by
    have hCs : j < C.size := by
      rw [← HC.out]; unfold bytesRow; rw [Array.size_append, Array.size_map]; exact Nat.lt_of_lt_of_le hj (Nat.le_add_right _ _)
    refine ⟨?_, ?_⟩
    · have := World.cell?_alloc_mark W8.drew C 5 (C.size, C.size + 1) j
      refine this.trans ?_
      rw [← HC.out]; exact bytesRow_at nd.data cap j hj
    have := World.frozen?_alloc_mark W8.drew C 5 C.size (C.size + 1) j; refine this.trans ?_; have : decide (C.size ≤ j) = false := decide_eq_false (by omega)
    rw [this]; rfl)
  have hsz : W8.heap.size < (W8.drew.alloc (.cells C 5 (C.size, C.size + 1))).heap.size := by
    show _ < (W8.heap.push _).size
    rw [Array.size_push]; omega
  refine code_gen (fun W => Hid (TwoP w W ga A1 23 gb B1 22 ([W8.heap.size] ++ [w.heap.size]) ∧ Blk W w.heap.size 88 #[.string x.pair, .int .i64 x.serial, .slice tx lx cx, .slice sx x.stamps.length dx, .string y.pair, .int .i64 y.serial, .slice ty ly cy, .slice sy y.stamps.length dy] ∧ (∀ j (hj : j < nd.data.size), W.cell? ⟨W8.heap.size, j, none⟩ = some (.int .u8 ((nd.data.data[j]'hj).toNat : Int)) ∧ W.frozen? ⟨W8.heap.size, j, none⟩ = false) ∧ W8.heap.size < W.heap.size))
    (Lib.hid ⟨HW8.out.1.more ((Off.refl [] W8).drew.alloc _) (fun b hb => by rw [List.mem_singleton] at hb; subst hb; exact ⟨Nat.le_refl _, hsz⟩), (HW8.out.2.1.off (Off.refl [] W8).drew (by simp)).alloc _, HBY.out, hsz⟩) ?_
  rintro W9 HW9; have HNE := Lib.hid (show w.heap.size < W8.heap.size ∧ w.heap.size ≤ W8.heap.size from ⟨HW8.out.2.1.lt, HW8.out.1.since.size⟩); obtain ⟨gq, hgq⟩ : ∃ gq, W8.heap.size = gq := ⟨_, rfl⟩
  rw [hgq] at HW9 HNE; rw [hgq]; clear hgq HBY hsz HC HW8 c9 l9; obtain ⟨bn, rfl⟩ : ∃ bn : Nat, by_ = bn := ⟨by_.toNat, by omega⟩
  obtain ⟨b0, hb0⟩ : ∃ b : UInt8, nd.data.data[i]'hi = b := ⟨_, rfl⟩
  have cq : W9.cell? ⟨gq, i, none⟩ = some (.int .u8 (b0.toNat : Int)) := by rw [← hb0]; exact (HW9.out.2.2.1 i hi).1
  have fq := (HW9.out.2.2.1 i hi).2; have lq := HW9.out.2.2.2; obtain ⟨v8, hv8⟩ : ∃ v8 : UInt8, b0 ^^^ UInt8.ofNat bn = v8 := ⟨_, rfl⟩
  have hvn : v8.toNat = b0.toNat ^^^ bn := by
    rw [← hv8, UInt8.toNat_xor, UInt8.toNat_ofNat', Nat.mod_eq_of_lt (by omega)]
  have hxo : bits BinOp.xor IntKind.u8 (b0.toNat : Int) (bn : Int) = (v8.toNat : Int) := by
    rw [u8_xor_nat b0.toNat bn (by have := b0.toNat_lt; omega) (by omega), hvn]
  have hne8 : b0 ≠ v8 := fun e => by
    rw [← e] at hvn; have h2 : b0.toNat ^^^ (b0.toNat ^^^ bn) = bn := by rw [← Nat.xor_assoc, Nat.xor_self, Nat.zero_xor]
    rw [← hvn, Nat.xor_self] at h2; omega
  have HV8 := Lib.hid (And.intro hb0 hne8); clear hv8 hvn hne8 hb0
  go_upto_region 13 with fail
  have ho10 : Off [gq] W9 (W9.setCell ⟨gq, i, none⟩ (.int .u8 (v8.toNat : Int))) := (Off.refl _ _).setCell (.inr (by simp)) _
  obtain ⟨l, hl⟩ : ∃ l, (str nd.data).set i v8 = l := ⟨_, rfl⟩
  have hll : l.length = nd.data.size := by rw [← hl, List.length_set, str_size]
  refine code_gen (fun W => Hid (TwoP w W ga A1 23 gb B1 22 ([gq] ++ [w.heap.size]) ∧ Blk W w.heap.size 88 #[.string x.pair, .int .i64 x.serial, .slice tx lx cx, .slice sx x.stamps.length dx, .string y.pair, .int .i64 y.serial, .slice ty ly cy, .slice sy y.stamps.length dy] ∧ ∀ j (hj : j < l.length), W.cell? ((⟨gq, 0, none⟩ : Addr).add j) = some (.int .u8 ((l[j]'hj).toNat : Int))))
    (Lib.hid ⟨HW9.out.1.own ho10 (fun b hb => by rw [List.mem_singleton] at hb; subst hb; exact ⟨by simp, HNE.out.2⟩), HW9.out.2.1.off ho10 (by have := HNE.out.1; simp; omega), fun j hj => by
      rw [addr_add]
      by_cases hji : j = i
      · subst hji
        have hlj : l[j]'hj = v8 := by
          subst hl; exact List.getElem_set_self ..
        rw [hlj]; exact World.cell?_setCell_same _ _ _ cq
      have hj' : j < nd.data.size := by rw [← hll]; exact hj
      have hlj : l[j]'hj = nd.data.data[j]'hj' := by
        subst hl; rw [List.getElem_set_ne (fun e => hji e.symm)]
        rfl
      rw [hlj]; refine (World.cell?_setCell_other _ _ _ _ (fun e => hji ?_)).trans (HW9.out.2.2.1 j hj').1; have e2 : i = j := congrArg Addr.off e
      exact e2.symm⟩) ?_
  rintro W10 HW10; have hback := run_convert_bytes_back (P := Tryz.prog) W10 96 9 5 ⟨gq, 0, none⟩ cap l Tryz.underlying96 Tryz.underlying5 Tryz.underlying9 HW10.out.2.2; rw [hll] at hback; have HTL := Lib.hid (show TellA (some (⟨l.toArray⟩ : ByteArray)) none ∧ (⟨l.toArray⟩ : ByteArray).size ≤ 65536 from by
    have h1 := tell_hit HQ.out.1 HLE.out.1 (i := i) (v := v8) (by rw [← HA1.out.1]; exact hi) (by
      rw [← HA1.out.1]
      intro e
      have e2 : (str nd.data)[i]? = some (nd.data.data[i]'hi) := by
        rw [List.getElem?_eq_getElem (by rw [str_size]; exact hi)]
        rfl
      rw [e2, HV8.out.1] at e; injection e with e
      exact HV8.out.2 e)
    rw [← HA1.out.1, hl] at h1; exact h1)
  obtain ⟨t, ht⟩ : ∃ t : ByteArray, (⟨l.toArray⟩ : ByteArray) = t := ⟨_, rfl⟩
  rw [ht] at hback HTL; clear hl hll ht cq fq lq hxo HW9 ho10 HV8; obtain ⟨q1, q2⟩ := HA1.out.2.1.spoil HW10.out.1.okA HTL.out.2; have HWR := Lib.hid (HW10.out.1.writeA (by omega) arcN t 0 (by decide)); obtain ⟨A2, hA2⟩ : ∃ A2, (A1.write arcN t 0).2 = A2 := ⟨_, rfl⟩
  rw [q1, hA2] at HWR; rw [hA2] at q2; have HQ2 := Lib.hid q2; unfold arcN at HWR; clear q1 q2 hA2
  go_wp2_with fail
  refine HWR.out.mono ?_
  rintro e w11 ⟨rfl, hT11, hk11⟩; have HS11 := Lib.hid (And.intro (hT11.drop (k' := [w.heap.size]) (fun b hb => by simp at hb ⊢; exact .inr hb)) (hk11.blk HW10.out.2.1 (by simp))); clear hT11 hk11 HWR HW10 hback; have c8 := HS11.out.2.cell; have l8 := HS11.out.2.lt; obtain ⟨h4, h5⟩ := HQ2.out.load HS11.out.1.okA; obtain ⟨h6, h7⟩ := HA1.out.2.2.load HS11.out.1.okB
  have HG := Lib.hid (agreed_any w ga 25 gb 22 _ _ [w.heap.size] x.pair w11 HS11.out.1 (by omega) (by omega) (some t) (some (encV y)) none (some y) h4 HTL.out.1 h6 (tell_enc HQ.out.2.1)); have HLD := Lib.hid (And.intro h5 h7); clear h4 h5 h6 h7; obtain ⟨A3, hA3⟩ : ∃ A3, (A2.load arcN).2 = A3 := ⟨_, rfl⟩
  obtain ⟨B3, hB3⟩ : ∃ B3, (B1.load arcN).2 = B3 := ⟨_, rfl⟩
  rw [hA3, hB3] at HG HLD; clear hA3 hB3; rw [show agreeV none (some y) x.pair = false from rfl] at HG
  go_wp2_with fail
  refine HG.out.mono ?_
  rintro e w12 ⟨a1, a2, rfl, hA1, hA2, hT12, hk12⟩; obtain ⟨⟨t1, ca, s1, cb, rfl, _⟩, _⟩ := hA1; obtain ⟨⟨t2, ca2, s2, cb2, rfl, _⟩, _⟩ := hA2; have HS12 := Lib.hid (And.intro hT12 (hk12.blk HS11.out.2 (by simp))); clear hT12 hk12 HS11 c8 l8 HG
  go_upto_region 16 with fail
  refine code_gen (fun W => Hid (TwoP w W ga A3 26 gb B3 23 [w.heap.size] ∧ Blk W w.heap.size 88 #[.string x.pair, .int .i64 x.serial, .slice tx lx cx, .slice sx x.stamps.length dx, .string y.pair, .int .i64 y.serial, .slice ty ly cy, .slice sy y.stamps.length dy])) (Lib.hid ⟨HS12.out.1.off (((Off.refl _ _).alloc _).alloc _), (HS12.out.2.alloc _).alloc _⟩) ?_
  rintro W13 HW13; clear HS12; have c8 := HW13.out.2.cell; have l8 := HW13.out.2.lt
  go_wp2_with fail
  refine (told_any w ga 26 gb 23 A3 B3 _ _ x W13 HW13.out.1 (by omega) HXA.out.1 (by have := HLE.out; omega) (some t) none HLD.out.1 HTL.out.1 false rfl (fun h => by cases h)).mono ?_
  rintro e w14 ⟨rfl, hT14, hk14⟩; have HS14 := Lib.hid (And.intro hT14 (hk14.blk HW13.out.2 (by simp))); clear hT14 hk14 HW13 c8 l8; have c8 := HS14.out.2.cell; have l8 := HS14.out.2.lt
  go_wp2_with fail
  refine (told_any w gb 23 ga 27 B3 _ _ _ y w14 HS14.out.1.swap (by omega) HXA.out.2 (by have := HLE.out; omega) (some (encV y)) (some y) HLD.out.2.l (tell_enc HQ.out.2.1) true rfl (fun _ => rfl)).mono ?_
  rintro e w15 ⟨rfl, hT15, hk15⟩; have HO15 := Lib.hid hT15.since; clear hT15 hk15 c8 l8 HS14
  go_wp2_with fail
  go_ret
  exact ⟨rfl, HO15.out⟩
end
section
open Go.RowKit Go.Op Go.Maps PDisk
theorem newD_tree20 {t : List Node} (hok : okTree t = true) : (newD t).tree = t := tree_new (okTree_sorted hok) rfl (by
  show (t.map fun n => (⟨n, 0, false⟩ : Ino)).map (·.node) = t
  rw [List.map_map]; exact List.map_id'' (fun _ => rfl) t)
def mkN : ByteArray := ⟨#[77, 107, 100, 105, 114]⟩
section
variable {D E : PDisk} {t : List Node}
theorem mkdir_in {p : ByteArray} (ho : D.off = false) (hf : D.fates = []) (hp : okPath (str p) = true) (hr : D.parentE p = (false, 62)) (hat : D.at_ p = none) (hl : D.names.length < 1000) :
    D.mkdir p = (0, ((D.tick mkN p ⟨#[]⟩).make ⟨⟨#[]⟩, 2, ⟨#[]⟩, 0⟩ (D.tick mkN p ⟨#[]⟩).clock false).change (putN D.names p (D.inos.length + 1))) := by
  have h2 : decide (1000 ≤ D.names.length) = false := decide_eq_false (by omega)
  refine (call_run (step_free mkN p ⟨#[]⟩ ho hf)).trans ?_
  have hat' : (D.tick mkN p ⟨#[]⟩).at_ p = none := hat
  have hr' : (D.tick mkN p ⟨#[]⟩).parentE p = (false, 62) := hr
  have hl' : decide (1000 ≤ (D.tick mkN p ⟨#[]⟩).names.length) = false := h2
  unfold PDisk.mkdir_ PDisk.lay PDisk.there; rw [hat', no_ok hp, hr', hl']
  rfl
def dirI (tm : Int) : Ino := ⟨⟨⟨#[]⟩, 2, ⟨#[]⟩, 0⟩, tm, false⟩
def opN (N : NameL) (k : Nat) : Nat → NameL | 0 => N | i + 1 => putN (opN N k i) (hostP i) (k + i + 1)
theorem opN_has {N : NameL} {k : Nat} {x : ByteArray} : ∀ i, (∀ j, j < i → hostP j ≠ x) → hasN (opN N k i) x = hasN N x
  | 0, _ => rfl
  | i + 1, h => by
    show hasN (putN (opN N k i) (hostP i) (k + i + 1)) x = _
    rw [hasN_putN, opN_has i (fun j hj => h j (by omega)), decide_eq_false (h i (by omega)), Bool.or_false]
theorem opN_look {N : NameL} {k : Nat} {x : ByteArray} : ∀ i, (∀ j, j < i → hostP j ≠ x) → lookN (opN N k i) x = lookN N x
  | 0, _ => rfl
  | i + 1, h => by
    show lookN (putN (opN N k i) (hostP i) (k + i + 1)) x = _
    rw [lookN_putN, if_neg (h i (by omega)), opN_look i (fun j hj => h j (by omega))]
theorem opN_own {N : NameL} {k : Nat} : ∀ i, lookN (opN N k (i + 1)) ownB = if i < 4 then k + 1 else lookN (opN N k (i + 1)) ownB
  | 0 => by
    rw [if_pos (by omega)]
    show lookN (putN N (hostP 0) (k + 0 + 1)) ownB = _
    rw [lookN_putN, if_pos (by decide)]
  | i + 1 => by
    by_cases hi : i + 1 < 4
    · rw [if_pos hi]
      show lookN (putN (opN N k (i + 1)) (hostP (i + 1)) (k + (i + 1) + 1)) ownB = _
      rw [lookN_putN, if_neg, opN_own i, if_pos (by omega)]
      match i, hi with
      | 0, _ => decide
      | 1, _ => decide
      | 2, _ => decide
      | j + 3, h => exact absurd h (by omega)
    rw [if_neg hi]
theorem opN_len {N : NameL} {k : Nat} : ∀ i, (opN N k i).length ≤ N.length + i
  | 0 => Nat.le_refl _
  | i + 1 => by
    have h2 : ∀ (l : NameL) p i, (putN l p i).length ≤ l.length + 1 := fun l p i => by
      unfold putN
      split
      · rw [List.length_map]; omega
      rw [List.length_append]; simp
    have := h2 (opN N k i) (hostP i) (k + i + 1); have := opN_len (N := N) (k := k) i
    show (putN (opN N k i) (hostP i) (k + i + 1)).length ≤ _
    omega
theorem hostP_ne : ∀ i, i < 4 → ∀ j, j < i → hostP j ≠ hostP i
  | 0, _, j, h => absurd h (by omega)
  | 1, _, 0, _ => by decide
  | 1, _, j + 1, h => absurd h (by omega)
  | 2, _, 0, _ => by decide
  | 2, _, 1, _ => by decide
  | 2, _, j + 2, h => absurd h (by omega)
  | 3, _, 0, _ => by decide
  | 3, _, 1, _ => by decide
  | 3, _, 2, _ => by decide
  | 3, _, j + 3, h => absurd h (by omega)
  | i + 4, h, _, _ => absurd h (by omega)
theorem hostP_ok : ∀ i, i < 4 → okPath (str (hostP i)) = true
  | 0, _ => by decide +kernel
  | 1, _ => by decide +kernel
  | 2, _ => by decide +kernel
  | 3, _ => by decide +kernel
  | i + 4, h => absurd h (by omega)
theorem hostP_par : ∀ i, i < 4 → bs (parent (str (hostP i))) = if i = 0 then ⟨#[]⟩ else ownB
  | 0, _ => by decide +kernel
  | 1, _ => by decide +kernel
  | 2, _ => by decide +kernel
  | 3, _ => by decide +kernel
  | i + 4, h => absurd h (by omega)
theorem hostP_own : ∀ i, i < 4 → within (str (hostP i)) (str ownB) = true
  | 0, _ => by decide +kernel
  | 1, _ => by decide +kernel
  | 2, _ => by decide +kernel
  | 3, _ => by decide +kernel
  | i + 4, h => absurd h (by omega)
def Outs (t : List Node) : Prop := ∀ n ∈ t, within n.p (str ownB) = false
theorem Outs.has (h : Outs t) {x : ByteArray} (hx : within (str x) (str ownB) = true) : hasN (nmOf t 0) x = false := by
  cases hh : hasN (nmOf t 0) x
  · rfl
  obtain ⟨n, hn, e⟩ := (nmOf_has _ _ _).1 hh; have := h n hn; unfold Node.p at this; rw [e, hx] at this; cases this
structure OpQ (t : List Node) (i : Nat) (D : PDisk) : Prop where
  on : D.off = false
  fates : D.fates = []
  names : D.names = opN (nmOf t 0) t.length i
  inos : ∃ L, D.inos = (newD t).inos ++ L ∧ L.length = i ∧ ∀ n ∈ L, ∃ tm, n = dirI tm
theorem OpQ.new (t : List Node) : OpQ t 0 (newD t) := ⟨rfl, rfl, rfl, [], by simp, rfl, fun n hn => by cases hn⟩
theorem OpQ.own {i : Nat} (h : OpQ t (i + 1) D) (hi : i < 4) : ∃ n, D.at_ ownB = some n ∧ n.node.kind = 2 := by
  obtain ⟨L, h1, h2, h3⟩ := h.inos; unfold PDisk.at_ PDisk.inode; rw [h.names, opN_own i, if_pos hi, if_neg (by omega), h1]; have hl : (newD t).inos.length = t.length := by show (t.map _).length = _; rw [List.length_map]
  rw [List.getElem?_append_right (by omega), hl, Nat.add_sub_cancel, Nat.sub_self, List.getElem?_eq_getElem (by omega)]; obtain ⟨tm, e⟩ := h3 L[0] (List.getElem_mem ..); exact ⟨L[0], rfl, by rw [e]; rfl⟩
theorem OpQ.step {i : Nat} (hO : Outs t) (hl : t.length ≤ 900) (h : OpQ t i D) (hi : i < 4) : (D.mkdir (hostP i)).1 = 0 ∧ OpQ t (i + 1) (D.mkdir (hostP i)).2 := by
  have hnl : D.names.length < 1000 := by
    rw [h.names]; have h1 := opN_len (N := nmOf t 0) (k := t.length) i; have h2 := nmOf_len t 0; omega
  have hat : D.at_ (hostP i) = none := at_none_of (by rw [h.names, opN_has i (fun j hj => hostP_ne i hi j hj)]; exact hO.has (hostP_own i hi))
  have hr : D.parentE (hostP i) = (false, 62) := by
    unfold PDisk.parentE; rw [hostP_par i hi]
    cases i with
    | zero => rw [if_pos rfl]; rfl
    | succ i => rw [if_neg (by omega), dirOwn (h.own (by omega))]; rfl
  rw [mkdir_in h.on h.fates (hostP_ok i hi) hr hat hnl]; obtain ⟨L, h1, h2, h3⟩ := h.inos; have hl : (newD t).inos.length = t.length := by show (t.map _).length = _; rw [List.length_map]
  refine ⟨rfl, h.on, h.fates, ?_, L ++ [dirI (D.tick mkN (hostP i) ⟨#[]⟩).clock], ?_, by simp [h2], fun n hn => ?_⟩
  · show putN D.names (hostP i) (D.inos.length + 1) = _
    rw [h.names, h1, List.length_append, hl, h2]
    rfl
  · show D.inos ++ [dirI (D.tick mkN (hostP i) ⟨#[]⟩).clock] = _
    rw [h1, List.append_assoc]
  rcases List.mem_append.1 hn with hn | hn
  · exact h3 n hn
  simp at hn; exact ⟨_, hn⟩
theorem opD_q (hO : Outs t) (hl : t.length ≤ 900) : ∀ i, i ≤ 4 → OpQ t i (opD (newD t) i)
  | 0, _ => OpQ.new t
  | i + 1, h => ((opD_q hO hl i (by omega)).step hO hl (by omega)).2
theorem opD_z (hO : Outs t) (hl : t.length ≤ 900) : ∀ i, i < 4 → ((opD (newD t) i).mkdir (hostP i)).1 = 0 ∨ ((opD (newD t) i).mkdir (hostP i)).1 = 72 :=
  fun i hi => .inl ((opD_q hO hl i (by omega)).step hO hl hi).1
structure OutQ (t : List Node) (D : PDisk) : Prop where
  look : ∀ x, within (str x) (str ownB) = false → lookN D.names x = lookN (nmOf t 0) x ∧ hasN D.names x = hasN (nmOf t 0) x
  inos : ∀ (i : Nat) n, (newD t).inos[i]? = some n → D.inos[i]? = some n
theorem host_q (hO : Outs t) (hok : okTree t = true) (hl : t.length ≤ 900) : (opD (newD t) 4).flush.1 = 0 ∧ HS (hostD t) none ∧ OutQ t (hostD t) ∧ (hostD t).names.length ≤ t.length + 4 := by
  have h := opD_q hO hl 4 (Nat.le_refl _); have hg := hostD_hg hok; have hk := hostD_ok hok; unfold hostD at hg hk ⊢; generalize opD (newD t) 4 = E at h hg hk ⊢; have hfl : E.flush = (0, (E.tick fN ⟨#[]⟩ ⟨#[]⟩).flush_) := call_run (step_free fN ⟨#[]⟩ ⟨#[]⟩ h.on h.fates)
  rw [hfl] at hg hk ⊢; dsimp only at hg hk ⊢; obtain ⟨L, h1, h2, h3⟩ := h.inos; have hn : E.names = opN (nmOf t 0) t.length 4 := h.names
  have hi : E.inos = (newD t).inos ++ L := h1
  have hne : ∀ x, (∀ j, j < 4 → hostP j ≠ x) → hasN E.names x = hasN (nmOf t 0) x := fun x hx => by rw [hn, opN_has 4 hx]
  have hle : E.names.length ≤ t.length + 4 := by
    rw [hn]; have h1 := opN_len (N := nmOf t 0) (k := t.length) 4; have h2 := nmOf_len t 0; omega
  have c4 : ∀ x : ByteArray, (decide (hostP 0 ≠ x) && decide (hostP 1 ≠ x) && decide (hostP 2 ≠ x) && decide (hostP 3 ≠ x)) = true → ∀ j, j < 4 → hostP j ≠ x := fun x hx j hj => by
    simp only [Bool.and_eq_true, decide_eq_true_eq] at hx
    match j, hj with
    | 0, _ => exact hx.1.1.1
    | 1, _ => exact hx.1.1.2
    | 2, _ => exact hx.1.2
    | 3, _ => exact hx.2
    | j + 4, h => exact absurd h (by omega)
  refine ⟨rfl, ⟨⟨?_, ?_, ?_, .inl ⟨rfl, ?_⟩, h.on, h.fates, rfl, rfl, ?_, fun x => (hk.names x).1, Nat.lt_of_le_of_lt hle (by omega)⟩, hg⟩, ⟨fun x hx => ?_, fun i n hn => ?_⟩, hle⟩
  · obtain ⟨n, h5, h6⟩ := h.own (by omega)
    exact ⟨n, h5, h6⟩
  · exact (hne nxtB (c4 _ (by decide))).trans (hO.has (by decide +kernel))
  · exact (hne nxtN (c4 _ (by decide))).trans (hO.has (by decide +kernel))
  · exact (hne arcN (c4 _ (by decide))).trans (hO.has (by decide +kernel))
  · intro n hm
    have hm : n ∈ E.inos := hm
    rw [hi] at hm
    rcases List.mem_append.1 hm with hm | hm
    · obtain ⟨x, _, rfl⟩ := List.mem_map.1 (show n ∈ t.map _ from hm)
      rfl
    obtain ⟨tm, rfl⟩ := h3 n hm
    rfl
  · have hx' : ∀ j, j < 4 → hostP j ≠ x := fun j hj e => by
      have := hostP_own j hj; rw [e, hx] at this; cases this
    exact ⟨by show lookN E.names x = _; rw [h.names, opN_look 4 hx'], hne x hx'⟩
  show E.inos[i]? = _
  rw [hi, List.getElem?_append_left (List.getElem?_eq_some_iff.1 hn).1]; exact hn
theorem OutQ.of (h : OutQ t D) (h1 : E.names = D.names) (h2 : E.inos = D.inos) : OutQ t E := ⟨fun x hx => by rw [h1]; exact h.look x hx, fun i n hn => by rw [h2]; exact h.inos i n hn⟩
theorem OutQ.commit {o : Option ByteArray} {s : ByteArray} (h : OutQ t D) (hq : HostQ D o) (hs : s.size ≤ 65536) (hl : D.names.length ≤ 900) : OutQ t (D.save nxtN s).2.turn.2 := by
  obtain ⟨h1, h2⟩ := save_next hq hs; have h3 := (turn_next hq h2 (by rw [h2.names]; have := nm2_len hq; omega)).2; refine ⟨fun x hx => ?_, fun i n hn => h3.old i n (h.inos i n hn)⟩; have n1 : nxtN ≠ x := fun e => by rw [← e, show within (str nxtN) (str ownB) = true by decide +kernel] at hx; cases hx
  have n2 : nxtB ≠ x := fun e => by rw [← e, show within (str nxtB) (str ownB) = true by decide +kernel] at hx; cases hx
  have n3 : arcN ≠ x := fun e => by rw [← e, show within (str arcN) (str ownB) = true by decide +kernel] at hx; cases hx
  rw [h3.names, lookN_delN, if_neg n1, lookN_putN, if_neg n3, look_nm2, if_neg n2, if_neg n1, hasN_delN, hasN_putN, has_nm2]; simp only [decide_eq_false n1, decide_eq_false n2, decide_eq_false n3, Bool.or_false, Bool.not_false, Bool.and_true]; exact h.look x hx
theorem inode_new {i : Nat} {m : Ino} (h : OutQ t D) (hm : (newD t).inode i = some m) : D.inode i = some m := by
  unfold PDisk.inode at hm ⊢
  split at hm
  · cases hm
  rename_i h0
  rw [if_neg h0]; exact h.inos _ _ hm
theorem OutQ.tree {n : Nat} (h : OutQ t D) (hO : Outs t) (hok : okTree t = true) (hf : Fine D n) : (D.tree.filter fun x => !within x.p (str ownB)) = t := by
  have hk := newD_ok hok; have hg := good_new hok; have ht := newD_tree20 hok; refine sorted_ext (filter_sorted hf.sorted _) (okTree_sorted hok) fun nd => ?_
  rw [List.mem_filter]
  constructor
  · rintro ⟨h1, h2⟩
    have h2 : within nd.p (str ownB) = false := by simpa using h2
    have h2 : within (str nd.path) (str ownB) = false := h2
    obtain ⟨y, hy, m, hm, rfl⟩ := node_tree hf.ok hf.good.names h1; have h2 : within (str y.1) (str ownB) = false := h2
    obtain ⟨k1, k2⟩ := h.look _ h2; have h3 : hasN (newD t).names y.1 = true := k2.symm.trans ((hasN_iff _ _).2 ⟨y, hy, rfl⟩)
    obtain ⟨z, hz, ez⟩ := (hasN_iff _ _).1 h3; obtain ⟨m2, hm2, hin⟩ := tree_node hk hg.names hz; have e1 := lookN_mem hf.good.names hy; have e2 : lookN (nmOf t 0) z.1 = z.2 := lookN_mem hg.names hz
    rw [ez, ← k1, e1] at e2; have h4 := inode_new h hm2; rw [← e2, hm] at h4; injection h4 with h4
    rw [ht, ez, ← h4] at hin; exact hin
  intro hin
  have hin' := hin; rw [← ht] at hin; obtain ⟨z, hz, m2, hm2, e⟩ := node_tree hk hg.names hin; have h2 := hO nd hin'; have h2' : within (str z.1) (str ownB) = false := by rw [e] at h2; exact h2
  obtain ⟨k1, k2⟩ := h.look _ h2'; have h3 : hasN D.names z.1 = true := k2.trans ((hasN_iff _ _).2 ⟨z, hz, rfl⟩)
  obtain ⟨y, hy, ey⟩ := (hasN_iff _ _).1 h3; obtain ⟨m, hm, hyin⟩ := tree_node hf.ok hf.good.names hy; have e1 := lookN_mem hf.good.names hy; have e2 : lookN (nmOf t 0) z.1 = z.2 := lookN_mem hg.names hz
  rw [ey, k1, e2] at e1; have h4 := inode_new h hm2; rw [e1, hm] at h4; injection h4 with h4
  rw [ey, h4, ← e] at hyin; exact ⟨hyin, by rw [h2]; rfl⟩
end
end
section
open Go.RowKit Go.Op
def outV (t : List Node) : List Node := t.filter fun x => !within x.p (str ownB)
theorem outV_take {t : List Node} {i : Nat} {x : Node} (h : t[i]? = some x) : outV (t.take (i + 1)) = outV (t.take i) ++ if within x.p (str ownB) = true then [] else [x] := by
  unfold outV; rw [take_get h, List.filter_append, List.filter_cons]
  cases within x.p (str ownB) <;> simp
set_option maxRecDepth 100000 in
set_option maxHeartbeats 8000000 in
theorem outside_any (p : Option Addr) (t : List Node) (n c : Nat) (w : World) (hR : Row w p t) (hn : t.length = n) (hlen : n ≤ 1048576) (hF : ∀ x ∈ t, x.path.size ≤ 1048576) :
    Calls Tryz.prog 46 #[.slice p n c] w (OwnT8 (outV t) w) := by
  obtain ⟨i0, hi0, hz0, hz1, hz2⟩ := info_parts infoNode; have HN := Lib.hid hn; have HR := Lib.hid hR; have HF := Lib.hid hF; clear hn hR hF
  go_enter Tryz.func46, Tryz.ntmps46
  go_wp2_with fail
  go_loopw [4, 3] (fun x z wr => ∃ i : Nat, x = .int .i64 i ∧ i ≤ n ∧ wr.ownsRow w.heap.size 30 4 z (outV (t.take i)).length (cellsOf (outV (t.take i))) ∧ Off [] w wr) (fun x _ _ => n - (intOf x).toNat)
  case atStart => exact ⟨0, rfl, by omega, ⟨rfl, .inl ⟨rfl, rfl⟩⟩, Off.refl _ _⟩
  case round =>
    obtain ⟨i, rfl, hi, hown, hof⟩ := hrel
    by_cases hlt : i < n
    · have hil : i < t.length := by rw [HN.out]; exact hlt
      obtain ⟨a, rfl, hna, hab⟩ := HR.out.get i hil; have hx := List.getElem?_eq_getElem hil; have hxs := HF.out _ (List.getElem_mem hil); have hml : (outV (t.take i)).length ≤ 1048576 := by
        have := filter_len (t.take i) (fun x => !within x.p (str ownB)); rw [List.length_take] at this; unfold outV; omega
      have HTK := Lib.hid (outV_take hx); generalize t[i] = x at *; have HRX := Lib.hid (fun (W : World) (ho : Off [] w W) => hna.off ho (by rw [add_block]; exact hab)); have HOWN := Lib.hid hown; clear hna hx hown; generalize hX : outV (t.take i) = X at *
      clear hX; have c0 := (HRX.out _ hof).path
      cases hw : within x.p (str ownB)
      · have HNW := Lib.hid (show outV (t.take (i + 1)) = X ++ [x] by rw [HTK.out, hw, if_neg (by simp)])
        have HWI := Lib.hid (show within (str x.path) (str ownB) = false from hw); clear HTK hw; unfold ownB at HWI
        go_wp2_with fail
        refine (rwithin_w8 x.path ⟨#[46, 104, 97, 119, 115, 101, 114]⟩ _ (by omega) (by decide) false HWI.out).mono ?_
        rintro e w7 ⟨rfl, ho7⟩; have hof7 := hof.trans_nil ho7; have HOW7 := Lib.hid (ownsRow_off HOWN.out ho7); clear c0 hof ho7; have c0 := (HRX.out _ hof7).path; have c1 := (HRX.out _ hof7).kind; have c2 := (HRX.out _ hof7).data; have c3 := (HRX.out _ hof7).mode; have hownA := HOW7.out.alloc (.cells #[.string x.path, .int .i64 x.kind, .string x.data, .int .i64 x.mode] 30)
        go_wp2_with (at_builtin; refine wpList_append_own _ rfl _ _ 22 rfl w.heap.size 30 i0 node0.val 4 48 Tryz.underlying22 hi0 hz0 hz1 hz2 rfl (by decide) _ _ _ rfl hownA ⟨w7.heap.size, 0, none⟩ 1 1 [_, _, _, _] rfl rfl (four_at8 (Blk.new w7 _ _)) (by simp [Value.oneCell']) (by unfold maxLen; omega) (by omega) (by have := hof7.size; simp; omega) ?_; intro v' W6 hown' hgrow _)
        refine ⟨⟨i + 1, by congr 1, by omega, ?_, own_grown (hof7.alloc _) hownA hgrow⟩, by simp only [intOf]; omega⟩
        rw [HNW.out, List.length_append, cellsOf_append]; exact hown'
      have HNW := Lib.hid (show outV (t.take (i + 1)) = X by rw [HTK.out, hw, if_pos rfl, List.append_nil]); have HWI := Lib.hid (show within (str x.path) (str ownB) = true from hw); clear HTK hw; unfold ownB at HWI
      go_wp2_with fail
      refine (rwithin_w8 x.path ⟨#[46, 104, 97, 119, 115, 101, 114]⟩ _ (by omega) (by decide) true HWI.out).mono ?_
      rintro e w7 ⟨rfl, ho7⟩; clear c0
      go_wp2_with fail
      refine ⟨⟨i + 1, by congr 1, by omega, ?_, hof.trans_nil ho7⟩, by simp only [intOf]; omega⟩
      rw [HNW.out]; exact ownsRow_off HOWN.out ho7
    obtain rfl : i = n := by omega
    have e0 : t.take i = t := List.take_of_length_le (by rw [HN.out]; exact Nat.le_refl _)
    rw [e0] at hown
    go_wp2_with fail
    go_ret
    exact ⟨_, rfl, hown, hof⟩
end
section
open Go.RowKit Go.Op
section
variable {D : PDisk} {o : Option ByteArray}
theorem load_same (h : HostQ D o) : (D.load arcN).2.names = D.names ∧ (D.load arcN).2.inos = D.inos := by
  rcases h.arc with ⟨h1, h2⟩ | ⟨s, n, h1, h2, h3, h4⟩
  · rw [load_none okArcN h.on h.fates (at_none_of h2)]; exact ⟨rfl, rfl⟩
  rw [load_file okArcN h.on h.fates h2 h3]; exact ⟨rfl, rfl⟩
theorem clear_same (h : HostQ D o) : (D.clear nxtN).2.names = D.names ∧ (D.clear nxtN).2.inos = D.inos := by
  rw [clear_none okNxtN h.on h.fates h.atnn]; exact ⟨rfl, rfl⟩
theorem flush_same (h : HostQ D o) : D.flush.2.names = D.names ∧ D.flush.2.inos = D.inos := by
  have hfl : D.flush = (0, (D.tick fN ⟨#[]⟩ ⟨#[]⟩).flush_) := call_run (step_free fN ⟨#[]⟩ ⟨#[]⟩ h.on h.fates)
  rw [hfl]; exact ⟨rfl, rfl⟩
end
def StW (t : List Node) (w0 W : World) (ga gb : Nat) (bl : List (Nat × TypeId × Array Value)) (o1 o2 : Option ByteArray) (c : Nat) : Prop :=
  ∃ A n B m, TwoP w0 W ga A n gb B m (bl.map (·.1)) ∧ (∀ q ∈ bl, Blk W q.1 q.2.1 q.2.2) ∧ HS A o1 ∧ HS B o2 ∧ OutQ t A ∧ n ≤ c ∧ m ≤ c
section
variable {t : List Node} {w0 W W' : World} {ga gb : Nat} {bl : List (Nat × TypeId × Array Value)} {o1 o2 : Option ByteArray} {c : Nat} {oa ob : Option Arc}
theorem StW.off (h : StW t w0 W ga gb bl o1 o2 c) (ho : Off [] W W') : StW t w0 W' ga gb bl o1 o2 c := by
  obtain ⟨A, n, B, m, h1, h2, h3⟩ := h; exact ⟨A, n, B, m, h1.off ho, fun q hq => (h2 q hq).off ho (by simp), h3⟩
theorem StW.since (h : StW t w0 W ga gb bl o1 o2 c) : Off [] w0 W := by
  obtain ⟨A, n, B, m, h1, h2, h3⟩ := h; exact h1.since
theorem StW.blk (h : StW t w0 W ga gb bl o1 o2 c) {g : Nat} {ty : TypeId} {xs : Array Value} (hq : (g, ty, xs) ∈ bl) : Blk W g ty xs := by
  obtain ⟨A, n, B, m, h1, h2, h3⟩ := h; exact h2 _ hq
theorem StW.told (h : StW t w0 W ga gb bl o1 o2 c) (hc : c ≤ 80000) {v : Value} {x : Arc} (hv : ArcAt w0 v x) (hl : x.tree.length ≤ 30) (hT : TellA o1 oa) {is : Bool} (his : oa.isSome = is) (hx : is = true → oa = some x) :
    Calls Tryz.prog 45 #[.pointer (some ⟨ga, 0, none⟩), v, .bool is] W fun e w' => e = .returned (.bool true) ∧ StW t w0 w' ga gb bl o1 o2 (c + 10) := by
  obtain ⟨A, n, B, m, h1, h2, h3, h4, h5, h6, h7⟩ := h; obtain ⟨e1, e2⟩ := load_same h3.q; exact (told_any w0 ga n gb m A B _ v x W h1 (by omega) hv (by omega) o1 oa h3.l hT is his hx).mono fun e w' ⟨he, hT', hk⟩ =>
    ⟨he, _, _, _, _, hT', kep_blks h2 hk, (h3.load h1.okA).2, h4, h5.of e1 e2, by omega, by omega⟩
theorem StW.toldB (h : StW t w0 W ga gb bl o1 o2 c) (hc : c ≤ 80000) {v : Value} {y : Arc} (hv : ArcAt w0 v y) (hl : y.tree.length ≤ 30) (hT : TellA o2 ob) {is : Bool} (his : ob.isSome = is) (hx : is = true → ob = some y) :
    Calls Tryz.prog 45 #[.pointer (some ⟨gb, 0, none⟩), v, .bool is] W fun e w' => e = .returned (.bool true) ∧ StW t w0 w' ga gb bl o1 o2 (c + 10) := by
  obtain ⟨A, n, B, m, h1, h2, h3, h4, h5, h6, h7⟩ := h; exact (told_any w0 gb m ga n B A _ v y W h1.swap (by omega) hv (by omega) o2 ob h4.l hT is his hx).mono fun e w' ⟨he, hT', hk⟩ =>
    ⟨he, _, _, _, _, hT'.swap, kep_blks h2 hk, h3, (h4.load h1.okB).2, h5, by omega, by omega⟩
theorem StW.recover (h : StW t w0 W ga gb bl o1 o2 c) (hc : c ≤ 80000) (hT : TellA o1 oa) :
    Calls Tryz.prog 49 #[.pointer (some ⟨ga, 0, none⟩), .pointer (some ⟨gb, 0, none⟩)] W fun e w' => e = .returned (.int .i64 0) ∧ StW t w0 w' ga gb bl o1 o2 (c + 10) := by
  obtain ⟨A, n, B, m, h1, h2, h3, h4, h5, h6, h7⟩ := h; obtain ⟨l1, q1⟩ := h3.load h1.okA; obtain ⟨l2, q2⟩ := h4.loadN h1.okB; obtain ⟨s1, t1, r1⟩ := q1.clear (load_ok20 h1.okA); obtain ⟨s2, t2, r2⟩ := q2.clear (load_ok20 h1.okB); obtain ⟨e1, e2⟩ := load_same h3.q; obtain ⟨e3, e4⟩ := clear_same q1.q; obtain ⟨e5, e6⟩ := flush_same q1.q.clear.2
  exact (recover_ok w0 ga n gb m A B _ W h1 (by omega) (by omega) o1 oa l1 hT l2 s1 s2 t1 t2).mono fun e w' ⟨he, hT', hk⟩ =>
    ⟨he, _, _, _, _, hT', kep_blks h2 hk, r1, r2, ((h5.of e1 e2).of e3 e4).of e5 e6, by omega, by omega⟩
theorem StW.agreed (h : StW t w0 W ga gb bl o1 o2 c) (hc : c ≤ 80000) (hT1 : TellA o1 oa) (hT2 : TellA o2 ob) (pair : ByteArray) {av : Bool} (hav : agreeV oa ob pair = av) :
    Calls Tryz.prog 44 #[.pointer (some ⟨ga, 0, none⟩), .pointer (some ⟨gb, 0, none⟩), .string pair] W fun e w' =>
      ∃ v1 v2, e = .returned (.tuple #[v1, v2, .bool av, .int .i64 0]) ∧ ArcAt w' v1 (orA av (oa.getD zA)) ∧ ArcAt w' v2 (orA av (ob.getD zA)) ∧ StW t w0 w' ga gb bl o1 o2 (c + 10) := by
  obtain ⟨A, n, B, m, h1, h2, h3, h4, h5, h6, h7⟩ := h; obtain ⟨l1, q1⟩ := h3.load h1.okA; obtain ⟨l2, q2⟩ := h4.load h1.okB; obtain ⟨e1, e2⟩ := load_same h3.q; subst hav; exact (agreed_any w0 ga n gb m A B _ pair W h1 (by omega) (by omega) o1 o2 oa ob l1 hT1 l2 hT2).mono fun e w' ⟨v1, v2, he, hA1, hA2, hT', hk⟩ =>
    ⟨v1, v2, he, hA1, hA2, _, _, _, _, hT', kep_blks h2 hk, q1, q2, h5.of e1 e2, by omega, by omega⟩
theorem StW.tree (h : StW t w0 W ga gb bl o1 o2 c) (hc : c ≤ 80000) (hO : Outs t) (hok : okTree t = true) :
    Calls Tryz.prog 17 #[.pointer (some ⟨ga, 0, none⟩)] W fun e w' => ∃ p cap T, e = .returned (.slice p T.length cap) ∧ Row w' p T ∧ okTree T = true ∧ outV T = t ∧ Off [] W w' := by
  obtain ⟨A, n, B, m, h1, h2, h3, h4, h5, h6, h7⟩ := h; exact (h1.treeA (by omega)).mono fun e w' ⟨p, cap, he, hR, ho⟩ => ⟨p, cap, A.tree, he, hR, tree_ok (h3.g.fine h1.okA) h3.g.slim, h5.tree hO hok (h3.g.fine h1.okA), ho⟩
theorem StW.made (h : TwoP w0 W ga (hostD t) 10 gb (hostD []) 10 (bl.map (·.1))) (hb : ∀ q ∈ bl, Blk W q.1 q.2.1 q.2.2) (hO : Outs t) (hok : okTree t = true) (hl : t.length ≤ 40) : StW t w0 W ga gb bl none none 10 := by
  obtain ⟨-, h1, h2, h3⟩ := host_q hO hok (by omega); exact ⟨_, _, _, _, h, hb, h1, hostE, h2, Nat.le_refl _, Nat.le_refl _⟩
theorem StW.commit (h : TwoP w0 W ga (hostD t) 10 gb (hostD []) 10 (bl.map (·.1))) (hb : ∀ q ∈ bl, Blk W q.1 q.2.1 q.2.2) (hO : Outs t) (hok : okTree t = true) (hl : t.length ≤ 40) {v1 v2 : Value} {x y : Arc}
    (hA : ArcAt W v1 x) (hB : ArcAt W v2 y) (hl1 : x.tree.length ≤ 30) (hl2 : y.tree.length ≤ 30) (hm : matchV x y = true) :
    Calls Tryz.prog 42 #[.pointer (some ⟨ga, 0, none⟩), .pointer (some ⟨gb, 0, none⟩), v1, v2] W fun e w' => e = .returned (.int .i64 0) ∧ StW t w0 w' ga gb bl (some (encV x)) (some (encV y)) 30 := by
  have hx : okArc x = true := by unfold matchV at hm; simp only [Bool.and_eq_true] at hm; exact hm.1
  have hy : okArc y = true := by unfold matchV at hm; simp only [Bool.and_eq_true] at hm; exact hm.2.1
  have ox := arcOk hA hx; have oy := arcOk hB hy; obtain ⟨-, k1, k2, k3⟩ := host_q hO hok (by omega); obtain ⟨a1, a2, a3⟩ := k1.commit h.okA (enc_size ox (by omega)) (by omega); obtain ⟨b1, b2, b3⟩ := comD_q oy (by omega); have hq := k2.commit k1.q (enc_size ox (by omega)) (by omega)
  exact (commit_ok w0 ga 10 gb 10 _ _ _ v1 v2 x y W h (by omega) (by omega) hA hB (by omega) (by omega) hm a1 b1 a2 b2).mono fun e w' ⟨he, hT', hk⟩ =>
    ⟨he, _, _, _, _, hT', kep_blks hb hk, a3, b3, hq, by omega, by omega⟩
end
theorem outs_of {t : List Node} (h : (outV t).length = t.length) : Outs t := fun n hn => by
  have h1 := List.filter_eq_self.1 (List.Sublist.eq_of_length (List.filter_sublist ..) h); have := h1 n hn
  simpa using this
theorem opened_t (fp : Option Addr) (t : List Node) (n c : Nat) (w0 w : World) (hof : Off [] w0 w) (hT : Tabs w0) (hR : Row w fp t) (hn : t.length = n) (hc : n ≤ c) (hok : okTree t = true) (hF : Fits t) (hO : Outs t) (hl : n ≤ 40) :
    Calls Tryz.prog 41 #[.slice fp n c] w fun e w' => ∃ gd, e = .returned (.pointer (some ⟨gd, 0, none⟩)) ∧ Run w0 w' gd (hostD t) 10 :=
  opened_ok fp t n c w0 w hof hT hR hn hc hok hF (opD_z hO (by omega)) (host_q hO hok (by omega)).1
theorem same_t {fp pO : Option Addr} {t : List Node} {n c cO : Nat} {w W : World} (hR : Row w fp t) (hn : t.length = n) (hnb : n ≤ 1048576) (hs : Off [] w W) (hRO : Row W pO t) :
    Calls Tryz.prog 16 #[.slice pO t.length cO, .slice fp n c] W fun e w' => e = .returned (.bool true) ∧ Off [] W w' := by
  subst hn; have h := rsame_any t t pO fp cO c W (by omega) (by omega) hRO (hR.off hs); rw [decide_eq_true (rfl : t = t)] at h; exact h
set_option maxRecDepth 100000 in
theorem opened_bad (fp : Option Addr) (t : List Node) (n c : Nat) (w : World) (hT : Tabs w) (hR : Row w fp t) (hn : t.length = n) (hc : n ≤ c) (hcm : n ≤ maxLen) (hok : okTree t = false) (hF : Fits t) :
    Calls Tryz.prog 41 #[.slice fp n c] w fun e w' => e = .returned (.pointer none) ∧ Off [] w w' := by
  have HNEW := Lib.hid (dnew_bad fp t n c w hR hn hc hcm hok hF hT); clear hT hR hn hc hcm hok hF
  go_enter Tryz.func41, Tryz.ntmps41
  go_wp2_with fail
  refine HNEW.out.mono ?_
  rintro e w1 ⟨rfl, ho⟩; have HO := Lib.hid ho; clear ho HNEW
  go_wp2_with fail
  go_ret
  exact ⟨rfl, HO.out⟩
end
section
open Go.RowKit Go.Op
set_option maxRecDepth 100000 in
set_option maxHeartbeats 32000000 in
theorem cwrites_any (fp : Option Addr) (t : List Node) (n c : Nat) (x y : Arc) (v0 v1 v2 v3 u0 u1 u2 u3 : Value) (pair : ByteArray) (w : World) (hR : Row w fp t) (hn : t.length = n) (hc : n ≤ c) (hnb : n ≤ 1048576) (hF : Fits1 t)
    (hx : ArcAt w (.agg #[v0, v1, v2, v3]) x) (hy : ArcAt w (.agg #[u0, u1, u2, u3]) y) (hfx : Fits1 x.tree) (hfy : Fits1 y.tree) (hT : Tabs w) :
    Calls Tryz.prog 8 #[.slice fp n c, .agg #[v0, v1, v2, v3, u0, u1, u2, u3], .string pair] w fun e w' => e = .returned (.bool true) ∧ Off [] w w' := by
  have HXA := Lib.hid (And.intro hx hy); have HFX := Lib.hid (And.intro hfx hfy); have HTR := Lib.hid (And.intro hR (And.intro hn (And.intro hc (And.intro hnb hF)))); obtain ⟨⟨tx, cx, sx, dx, e1, _⟩, _, hlx, _⟩ := hx; obtain ⟨⟨ty, cy, sy, dy, e2, _⟩, _, hly, _⟩ := hy; simp only [Value.agg.injEq] at e1 e2; simp only [Array.mk.injEq, List.cons.injEq, and_true] at e1 e2
  obtain ⟨rfl, rfl, rfl, rfl⟩ := e1; obtain ⟨rfl, rfl, rfl, rfl⟩ := e2; have HT := Lib.hid hT; clear hT hR hn hc hF hfx hfy; obtain ⟨lx, hlx'⟩ : ∃ lx, x.tree.length = lx := ⟨_, rfl⟩
  obtain ⟨ly, hly'⟩ : ∃ ly, y.tree.length = ly := ⟨_, rfl⟩
  rw [hlx'] at hlx HXA; rw [hly'] at hly HXA; rw [hlx', hly']; have HLN := Lib.hid (And.intro hlx' (And.intro hly' (And.intro hlx.1 hly.1))); clear hlx' hly' hlx hly
  go_enter Tryz.func8, Tryz.ntmps8
  go_upto_region 1 with fail
  obtain ⟨xs, hxs⟩ : ∃ xs : Array Value, xs = #[.string x.pair, .int .i64 x.serial, .slice tx lx cx, .slice sx x.stamps.length dx, .string y.pair, .int .i64 y.serial, .slice ty ly cy, .slice sy y.stamps.length dy] := ⟨_, rfl⟩
  refine code_gen (fun W => Hid (Off [] w W ∧ Blk W w.heap.size 88 xs)) (Lib.hid ⟨(Off.refl _ _).alloc _, by rw [hxs]; exact Blk.new w _ _⟩) ?_
  rintro W1 HW1
  go_wp2_with fail
  refine (awake20_any W1 (HT.out.off HW1.out.1)).mono ?_
  rintro e w2 ⟨rfl, ho2⟩; have HW2 := Lib.hid (And.intro (HW1.out.1.trans_nil ho2) (HW1.out.2.off ho2 (by simp))); clear HW1 ho2; subst hxs; have c1 := HW2.out.2.cell; have l1 := HW2.out.2.lt; obtain ⟨sm, hsm⟩ : ∃ sm, (decide (lx ≤ 30) && decide (ly ≤ 30)) = sm := ⟨_, rfl⟩
  have HSM := Lib.hid hsm; clear hsm
  go_wp2_with fail
  refine (small_any _ _ _ _ _ _ tx ty lx cx ly cy _ (by have := HLN.out; omega) (by have := HLN.out; omega) sm HSM.out).mono ?_
  rintro e w3 ⟨rfl, ho3⟩; have HW3 := Lib.hid (And.intro (HW2.out.1.trans_nil ho3) (HW2.out.2.off ho3 (by simp))); clear HW2 ho3 c1 l1
  cases sm
  · go_wp2_with fail
    go_ret
    exact ⟨rfl, HW3.out.1⟩
  have HLE := Lib.hid (show x.tree.length ≤ 30 ∧ y.tree.length ≤ 30 from by
    have h1 := HSM.out; have h2 := HLN.out; simp only [Bool.and_eq_true, decide_eq_true_eq] at h1; omega)
  by_cases hn40 : 40 < n
  · have hn40I : decide ((40 : Int) < (n : Int)) = true := decide_eq_true (by omega)
    go_wp2_with fail
    go_ret
    exact ⟨rfl, HW3.out.1⟩
  have hn40I : decide ((40 : Int) < (n : Int)) = false := decide_eq_false (by omega)
  go_wp2_with fail
  refine (outside_any fp t n c w3 (HTR.out.1.off HW3.out.1) HTR.out.2.1 HTR.out.2.2.2.1 (fun x hx => (HTR.out.2.2.2.2 x hx).1)).mono ?_
  rintro e w4 ⟨xx, rfl, hown, ho4⟩; obtain ⟨pq, cq, rfl, -⟩ := own_row hown; have HW4 := Lib.hid (And.intro (HW3.out.1.trans_nil ho4) (HW3.out.2.off ho4 (by simp))); clear hown HW3 ho4; obtain ⟨k, hk⟩ : ∃ k, (outV t).length = k := ⟨_, rfl⟩
  rw [hk]; have HK := Lib.hid hk; clear hk
  by_cases hkn : ¬ k = n
  · have hkI : ((k : Int) != (n : Int)) = true := by rw [bne, beq_eq_false_iff_ne.2 (by omega)]; rfl
    go_wp2_with fail
    go_ret
    exact ⟨rfl, HW4.out.1⟩
  have hkn : k = n := Classical.not_not.1 hkn
  subst hkn; have HO := Lib.hid (outs_of (by rw [HK.out, HTR.out.2.1])); obtain ⟨ok, hok⟩ : ∃ ok, okTree t = ok := ⟨_, rfl⟩
  cases ok
  · have HOK := Lib.hid hok
    clear hok
    go_wp2_with fail
    refine (opened_bad fp t k c _ (HT.out.off HW4.out.1) (HTR.out.1.off HW4.out.1) HTR.out.2.1 HTR.out.2.2.1 (by have := HTR.out.2.2.2.1; unfold maxLen; omega) HOK.out HTR.out.2.2.2.2.fits).mono ?_
    rintro e w5 ⟨rfl, ho5⟩; have HO5 := Lib.hid (HW4.out.1.trans_nil ho5); clear ho5 HW4
    go_wp2_with fail
    refine (opened0 (Off.refl [] w5) (HT.out.off HO5.out)).mono ?_
    rintro e w6 ⟨gb, rfl, hr2⟩; have HO6 := Lib.hid (HO5.out.trans_nil hr2.since); clear hr2 HO5
    go_wp2_with fail
    go_ret
    exact ⟨rfl, HO6.out⟩
  have HOK := Lib.hid hok; clear hok
  go_wp2_with fail
  refine (opened_t fp t k c w4 w4 (Off.refl [] w4) (HT.out.off HW4.out.1) (HTR.out.1.off HW4.out.1) HTR.out.2.1 HTR.out.2.2.1 HOK.out HTR.out.2.2.2.2.fits HO.out (by omega)).mono ?_
  rintro e w5 ⟨ga, rfl, hr1⟩; have H5 := Lib.hid hr1; clear hr1
  go_wp2_with fail
  refine (opened0 (Off.refl [] w5) (HT.out.off (HW4.out.1.trans_nil H5.out.since))).mono ?_
  rintro e w6 ⟨gb, rfl, hr2⟩; have H6 := Lib.hid (And.intro (TwoP.back (K := [w.heap.size]) (TwoP.make H5.out hr2 (HT.out.off HW4.out.1)) HW4.out.1 HT.out (fun b hb => by
      have a1 := HW4.out.2.lt; simp only [List.mem_cons, List.not_mem_nil, or_false] at hb; omega)) (HW4.out.2.off (H5.out.since.trans_nil hr2.since) (by simp)))
  clear hr2 H5 HW4; have HB6 := Lib.hid (show ∀ W, Off [] w6 W → ∀ q ∈ ([(w.heap.size, 88, #[.string x.pair, .int .i64 x.serial, .slice tx lx cx, .slice sx x.stamps.length dx, .string y.pair, .int .i64 y.serial, .slice ty ly cy, .slice sy y.stamps.length dy])] : List (Nat × TypeId × Array Value)), Blk W q.1 q.2.1 q.2.2 from fun W ho q hq => by
    rw [List.mem_singleton] at hq; subst hq; exact H6.out.2.off ho (by simp))
  obtain ⟨mt, hmt⟩ : ∃ mt, matchV x y = mt := ⟨_, rfl⟩
  have HM := Lib.hid hmt; clear hmt
  go_upto_region 8 with fail
  have c1 := H6.out.2.cell; have l1 := H6.out.2.lt; have HOX := Lib.hid (show ∀ W, Off [] w W → ArcAt W (.agg #[.string x.pair, .int .i64 x.serial, .slice tx lx cx, .slice sx x.stamps.length dx]) x ∧ ArcAt W (.agg #[.string y.pair, .int .i64 y.serial, .slice ty ly cy, .slice sy y.stamps.length dy]) y from fun W ho => ⟨HXA.out.1.off ho, HXA.out.2.off ho⟩)
  have HMT := Lib.hid (fun (W : World) (ho : Off [] w W) => rf9match_any _ _ x y W (HOX.out W ho).1 (HOX.out W ho).2 HFX.out.1 HFX.out.2 (by have := HLE.out; omega) (by have := HLE.out; omega) mt HM.out)
  cases mt
  · have HC := Lib.hid (fun (W : World) (ho : Off [] w W) => commit_no ga gb _ _ x y W (HOX.out W ho).1 (HOX.out W ho).2 (by have := HLE.out; omega) (by have := HLE.out; omega) (HT.out.off ho) HM.out)
    go_wp2_with fail
    refine (HC.out _ H6.out.1.since).mono ?_
    rintro e w8 ⟨rfl, ho8⟩; have HS8 := Lib.hid (StW.made (H6.out.1.off ho8) (HB6.out _ ho8) HO.out HOK.out (by have := HTR.out.2.1; omega)); clear ho8 H6 HB6 HC c1 l1; have c1 := (HS8.out.blk (List.mem_cons_self ..)).cell; have l1 := (HS8.out.blk (List.mem_cons_self ..)).lt
    go_wp2_with fail
    refine (HMT.out _ HS8.out.since).mono ?_
    rintro e w9 ⟨rfl, ho9⟩; have Z9 := Lib.hid (HS8.out.off ho9); clear ho9 HS8 c1 l1 HMT; have c8 := (Z9.out.blk (List.mem_cons_self ..)).cell; have l8 := (Z9.out.blk (List.mem_cons_self ..)).lt
    go_wp2_with fail
    refine (Z9.out.told (by omega) HXA.out.1 HLE.out.1 (.inl ⟨rfl, rfl⟩) (oa := none) (is := false) rfl (fun h => by cases h)).mono ?_
    rintro e wZ10 ⟨rfl, hS⟩; have Z10 := Lib.hid hS; clear hS c8 l8 Z9; have c8 := (Z10.out.blk (List.mem_cons_self ..)).cell; have l8 := (Z10.out.blk (List.mem_cons_self ..)).lt
    go_wp2_with fail
    refine (Z10.out.toldB (by omega) HXA.out.2 HLE.out.2 (.inl ⟨rfl, rfl⟩) (ob := none) (is := false) rfl (fun h => by cases h)).mono ?_
    rintro e wHS10 ⟨rfl, hS⟩; have HS10 := Lib.hid hS; clear hS c8 l8 Z10
    go_wp2_with fail
    refine (HS10.out.agreed (by omega) (.inl ⟨rfl, rfl⟩) (.inl ⟨rfl, rfl⟩) pair (oa := none) (ob := none) (av := false) (rfl)).mono ?_
    rintro e w11 ⟨a1, a2, rfl, hA1, hA2, hS⟩; have hA1 : ArcAt w11 a1 zA := hA1
    have hA2 : ArcAt w11 a2 zA := hA2
    obtain ⟨⟨t1, ca, s1, cb, rfl, _⟩, _⟩ := id hA1; obtain ⟨⟨t2, ca2, s2, cb2, rfl, _⟩, _⟩ := id hA2; have HS11 := Lib.hid (And.intro hS (And.intro hA1 hA2)); clear hS hA1 hA2 HS10
    go_upto_region 13 with fail
    refine code_gen (fun W => Hid (StW t w W ga gb ([(w.heap.size, 88, #[.string x.pair, .int .i64 x.serial, .slice tx lx cx, .slice sx x.stamps.length dx, .string y.pair, .int .i64 y.serial, .slice ty ly cy, .slice sy y.stamps.length dy])] : List (Nat × TypeId × Array Value)) none none 40 ∧ ArcAt W (.agg #[.string zA.pair, .int .i64 zA.serial, .slice t1 zA.tree.length ca, .slice s1 zA.stamps.length cb]) zA ∧ ArcAt W (.agg #[.string zA.pair, .int .i64 zA.serial, .slice t2 zA.tree.length ca2, .slice s2 zA.stamps.length cb2]) zA ∧ Blk W w11.heap.size 52 #[.string zA.pair, .int .i64 zA.serial, .slice t1 zA.tree.length ca, .slice s1 zA.stamps.length cb] ∧ Blk W (w11.heap.size + 1) 52 #[.string zA.pair, .int .i64 zA.serial, .slice t2 zA.tree.length ca2, .slice s2 zA.stamps.length cb2]))
      (Lib.hid ⟨HS11.out.1.off (((Off.refl _ _).alloc _).alloc _), HS11.out.2.1.off (((Off.refl _ _).alloc _).alloc _), HS11.out.2.2.off (((Off.refl _ _).alloc _).alloc _), (Blk.new w11 _ _).alloc _, Blk.new1 w11 _ _ _⟩) ?_
    rintro W12 HW12; obtain ⟨g11, hg11⟩ : ∃ g11, w11.heap.size = g11 := ⟨_, rfl⟩
    rw [hg11] at HW12; rw [hg11]; clear hg11 HS11
    go_upto_region 16 with fail
    have HS14 := Lib.hid HW12.out.1; clear HW12; have c8 := (HS14.out.blk (List.mem_cons_self ..)).cell; have l8 := (HS14.out.blk (List.mem_cons_self ..)).lt
    go_wp2_with fail
    refine (HS14.out.recover (by omega) (.inl ⟨rfl, rfl⟩)).mono ?_
    rintro e wZ15 ⟨rfl, hS⟩; have Z15 := Lib.hid hS; clear hS c8 l8 HS14; have c8 := (Z15.out.blk (List.mem_cons_self ..)).cell; have l8 := (Z15.out.blk (List.mem_cons_self ..)).lt
    go_wp2_with fail
    refine (Z15.out.told (by omega) HXA.out.1 HLE.out.1 (.inl ⟨rfl, rfl⟩) (oa := none) (is := false) rfl (fun h => by cases h)).mono ?_
    rintro e wZ16 ⟨rfl, hS⟩; have Z16 := Lib.hid hS; clear hS c8 l8 Z15; have c8 := (Z16.out.blk (List.mem_cons_self ..)).cell; have l8 := (Z16.out.blk (List.mem_cons_self ..)).lt
    go_wp2_with fail
    refine (Z16.out.toldB (by omega) HXA.out.2 HLE.out.2 (.inl ⟨rfl, rfl⟩) (ob := none) (is := false) rfl (fun h => by cases h)).mono ?_
    rintro e wZ17 ⟨rfl, hS⟩; have Z17 := Lib.hid hS; clear hS c8 l8 Z16
    go_wp2_with fail
    refine (Z17.out.tree (by omega) HO.out HOK.out).mono ?_
    rintro e wT ⟨pT, cT, T, rfl, hRT, hkT, hoT, hoA⟩; have HZT := Lib.hid (And.intro hRT (And.intro hkT (And.intro hoT (Z17.out.since.trans_nil hoA)))); obtain ⟨kT, hkT'⟩ : ∃ kT, T.length = kT := ⟨_, rfl⟩
    rw [hkT']; have HKT := Lib.hid hkT'; clear hRT hkT hoT hoA Z17 hkT'
    go_wp2_with fail
    refine (outside_any pT T kT cT _ HZT.out.1 HKT.out (by have := okTree_len HZT.out.2.1; have := HKT.out; omega) (fun x hx => ((fits1_tree8 HZT.out.2.1) x hx).1)).mono ?_
    rintro e wU ⟨xx, rfl, hown, hoA⟩; rw [HZT.out.2.2.1] at hown; obtain ⟨pO, cO, rfl, hRO, -⟩ := own_row hown; have HZU := Lib.hid (And.intro (HZT.out.2.2.2.trans_nil hoA) (same_t (c := c) (cO := cO) HTR.out.1 HTR.out.2.1 HTR.out.2.2.2.1 (HZT.out.2.2.2.trans_nil hoA) hRO)); clear hown hRO hoA HZT HKT; rw [HTR.out.2.1] at HZU; rw [HTR.out.2.1]
    go_wp2_with fail
    refine HZU.out.2.mono ?_
    rintro e wV ⟨rfl, hoA⟩; have HZV := Lib.hid (HZU.out.1.trans_nil hoA); clear hoA HZU
    go_wp2_with fail
    go_ret
    exact ⟨rfl, HZV.out⟩
  have HAO := Lib.hid (show ArcOk x ∧ ArcOk y from by
    have hm := HM.out; unfold matchV at hm; simp only [Bool.and_eq_true] at hm; exact ⟨arcOk HXA.out.1 hm.1, arcOk HXA.out.2 hm.2.1⟩)
  have HC := Lib.hid (fun (W : World) (ho : Off [] w6 W) => StW.commit (bl := ([(w.heap.size, 88, #[.string x.pair, .int .i64 x.serial, .slice tx lx cx, .slice sx x.stamps.length dx, .string y.pair, .int .i64 y.serial, .slice ty ly cy, .slice sy y.stamps.length dy])] : List (Nat × TypeId × Array Value))) (H6.out.1.off ho) (HB6.out W ho) HO.out HOK.out (by have := HTR.out.2.1; omega) (HOX.out W (H6.out.1.since.trans_nil ho)).1 (HOX.out W (H6.out.1.since.trans_nil ho)).2 HLE.out.1 HLE.out.2 HM.out)
  go_wp2_with fail
  refine (HC.out _ (Off.refl [] w6)).mono ?_
  rintro e w8 ⟨rfl, hS8⟩; have HS8 := Lib.hid hS8; clear hS8 H6 HB6 HC c1 l1; have c1 := (HS8.out.blk (List.mem_cons_self ..)).cell; have l1 := (HS8.out.blk (List.mem_cons_self ..)).lt
  go_wp2_with fail
  refine (HMT.out _ HS8.out.since).mono ?_
  rintro e w9 ⟨rfl, ho9⟩; have Z9 := Lib.hid (HS8.out.off ho9); clear ho9 HS8 c1 l1 HMT; have c8 := (Z9.out.blk (List.mem_cons_self ..)).cell; have l8 := (Z9.out.blk (List.mem_cons_self ..)).lt
  go_wp2_with fail
  refine (Z9.out.told (by omega) HXA.out.1 HLE.out.1 (tell_enc HAO.out.1) (oa := (some x)) (is := true) rfl (fun _ => rfl)).mono ?_
  rintro e wZ10 ⟨rfl, hS⟩; have Z10 := Lib.hid hS; clear hS c8 l8 Z9; have c8 := (Z10.out.blk (List.mem_cons_self ..)).cell; have l8 := (Z10.out.blk (List.mem_cons_self ..)).lt
  go_wp2_with fail
  refine (Z10.out.toldB (by omega) HXA.out.2 HLE.out.2 (tell_enc HAO.out.2) (ob := (some y)) (is := true) rfl (fun _ => rfl)).mono ?_
  rintro e wHS10 ⟨rfl, hS⟩; have HS10 := Lib.hid hS; clear hS c8 l8 Z10
  by_cases hp : ¬ x.pair = pair
  · have g1 : (x.pair.toList == pair.toList) = false := beq_eq_false_iff_ne.2 (fun h => hp (toList_iff.1 h))
    go_wp2_with fail
    refine (HS10.out.agreed (by omega) (tell_enc HAO.out.1) (tell_enc HAO.out.2) pair (oa := (some x)) (ob := (some y)) (av := false) (by unfold agreeV; show (true && (true && (matchV x y && decide (x.pair = pair)))) = false; rw [decide_eq_false hp]; simp)).mono ?_
    rintro e w11 ⟨a1, a2, rfl, hA1, hA2, hS⟩; have hA1 : ArcAt w11 a1 zA := hA1
    have hA2 : ArcAt w11 a2 zA := hA2
    obtain ⟨⟨t1, ca, s1, cb, rfl, _⟩, _⟩ := id hA1; obtain ⟨⟨t2, ca2, s2, cb2, rfl, _⟩, _⟩ := id hA2; have HS11 := Lib.hid (And.intro hS (And.intro hA1 hA2)); clear hS hA1 hA2 HS10
    go_upto_region 13 with fail
    refine code_gen (fun W => Hid (StW t w W ga gb ([(w.heap.size, 88, #[.string x.pair, .int .i64 x.serial, .slice tx lx cx, .slice sx x.stamps.length dx, .string y.pair, .int .i64 y.serial, .slice ty ly cy, .slice sy y.stamps.length dy])] : List (Nat × TypeId × Array Value)) (some (encV x)) (some (encV y)) 60 ∧ ArcAt W (.agg #[.string zA.pair, .int .i64 zA.serial, .slice t1 zA.tree.length ca, .slice s1 zA.stamps.length cb]) zA ∧ ArcAt W (.agg #[.string zA.pair, .int .i64 zA.serial, .slice t2 zA.tree.length ca2, .slice s2 zA.stamps.length cb2]) zA ∧ Blk W w11.heap.size 52 #[.string zA.pair, .int .i64 zA.serial, .slice t1 zA.tree.length ca, .slice s1 zA.stamps.length cb] ∧ Blk W (w11.heap.size + 1) 52 #[.string zA.pair, .int .i64 zA.serial, .slice t2 zA.tree.length ca2, .slice s2 zA.stamps.length cb2]))
      (Lib.hid ⟨HS11.out.1.off (((Off.refl _ _).alloc _).alloc _), HS11.out.2.1.off (((Off.refl _ _).alloc _).alloc _), HS11.out.2.2.off (((Off.refl _ _).alloc _).alloc _), (Blk.new w11 _ _).alloc _, Blk.new1 w11 _ _ _⟩) ?_
    rintro W12 HW12; obtain ⟨g11, hg11⟩ : ∃ g11, w11.heap.size = g11 := ⟨_, rfl⟩
    rw [hg11] at HW12; rw [hg11]; clear hg11 HS11; have c1 := (HW12.out.1.blk (List.mem_cons_self ..)).cell; have l1 := (HW12.out.1.blk (List.mem_cons_self ..)).lt
    go_upto_region 16 with fail
    have HS14 := Lib.hid HW12.out.1; clear HW12 c1 l1; have c8 := (HS14.out.blk (List.mem_cons_self ..)).cell; have l8 := (HS14.out.blk (List.mem_cons_self ..)).lt
    go_wp2_with fail
    refine (HS14.out.recover (by omega) (tell_enc HAO.out.1)).mono ?_
    rintro e wZ15 ⟨rfl, hS⟩; have Z15 := Lib.hid hS; clear hS c8 l8 HS14; have c8 := (Z15.out.blk (List.mem_cons_self ..)).cell; have l8 := (Z15.out.blk (List.mem_cons_self ..)).lt
    go_wp2_with fail
    refine (Z15.out.told (by omega) HXA.out.1 HLE.out.1 (tell_enc HAO.out.1) (oa := (some x)) (is := true) rfl (fun _ => rfl)).mono ?_
    rintro e wZ16 ⟨rfl, hS⟩; have Z16 := Lib.hid hS; clear hS c8 l8 Z15; have c8 := (Z16.out.blk (List.mem_cons_self ..)).cell; have l8 := (Z16.out.blk (List.mem_cons_self ..)).lt
    go_wp2_with fail
    refine (Z16.out.toldB (by omega) HXA.out.2 HLE.out.2 (tell_enc HAO.out.2) (ob := (some y)) (is := true) rfl (fun _ => rfl)).mono ?_
    rintro e wZ17 ⟨rfl, hS⟩; have Z17 := Lib.hid hS; clear hS c8 l8 Z16
    go_wp2_with fail
    refine (Z17.out.tree (by omega) HO.out HOK.out).mono ?_
    rintro e wT ⟨pT, cT, T, rfl, hRT, hkT, hoT, hoA⟩; have HZT := Lib.hid (And.intro hRT (And.intro hkT (And.intro hoT (Z17.out.since.trans_nil hoA)))); obtain ⟨kT, hkT'⟩ : ∃ kT, T.length = kT := ⟨_, rfl⟩
    rw [hkT']; have HKT := Lib.hid hkT'; clear hRT hkT hoT hoA Z17 hkT'
    go_wp2_with fail
    refine (outside_any pT T kT cT _ HZT.out.1 HKT.out (by have := okTree_len HZT.out.2.1; have := HKT.out; omega) (fun x hx => ((fits1_tree8 HZT.out.2.1) x hx).1)).mono ?_
    rintro e wU ⟨xx, rfl, hown, hoA⟩; rw [HZT.out.2.2.1] at hown; obtain ⟨pO, cO, rfl, hRO, -⟩ := own_row hown; have HZU := Lib.hid (And.intro (HZT.out.2.2.2.trans_nil hoA) (same_t (c := c) (cO := cO) HTR.out.1 HTR.out.2.1 HTR.out.2.2.2.1 (HZT.out.2.2.2.trans_nil hoA) hRO)); clear hown hRO hoA HZT HKT; rw [HTR.out.2.1] at HZU; rw [HTR.out.2.1]
    go_wp2_with fail
    refine HZU.out.2.mono ?_
    rintro e wV ⟨rfl, hoA⟩; have HZV := Lib.hid (HZU.out.1.trans_nil hoA); clear hoA HZU
    go_wp2_with fail
    go_ret
    exact ⟨rfl, HZV.out⟩
  have hp : x.pair = pair := Classical.not_not.1 hp
  have g1 : (x.pair.toList == pair.toList) = true := by rw [hp]; exact beq_self_eq_true _
  have HPP := Lib.hid hp; clear hp
  go_wp2_with fail
  refine (HS10.out.agreed (by omega) (tell_enc HAO.out.1) (tell_enc HAO.out.2) pair (oa := (some x)) (ob := (some y)) (av := true) (by unfold agreeV; show (true && (true && (matchV x y && decide (x.pair = pair)))) = true; rw [HM.out, decide_eq_true HPP.out]; rfl)).mono ?_
  rintro e w11 ⟨a1, a2, rfl, hA1, hA2, hS⟩; have hA1 : ArcAt w11 a1 x := hA1
  have hA2 : ArcAt w11 a2 y := hA2
  obtain ⟨⟨t1, ca, s1, cb, rfl, _⟩, _⟩ := id hA1; obtain ⟨⟨t2, ca2, s2, cb2, rfl, _⟩, _⟩ := id hA2; have HS11 := Lib.hid (And.intro hS (And.intro hA1 hA2)); clear hS hA1 hA2 HS10
  go_upto_region 13 with fail
  refine code_gen (fun W => Hid (StW t w W ga gb ([(w.heap.size, 88, #[.string x.pair, .int .i64 x.serial, .slice tx lx cx, .slice sx x.stamps.length dx, .string y.pair, .int .i64 y.serial, .slice ty ly cy, .slice sy y.stamps.length dy])] : List (Nat × TypeId × Array Value)) (some (encV x)) (some (encV y)) 60 ∧ ArcAt W (.agg #[.string x.pair, .int .i64 x.serial, .slice t1 x.tree.length ca, .slice s1 x.stamps.length cb]) x ∧ ArcAt W (.agg #[.string y.pair, .int .i64 y.serial, .slice t2 y.tree.length ca2, .slice s2 y.stamps.length cb2]) y ∧ Blk W w11.heap.size 52 #[.string x.pair, .int .i64 x.serial, .slice t1 x.tree.length ca, .slice s1 x.stamps.length cb] ∧ Blk W (w11.heap.size + 1) 52 #[.string y.pair, .int .i64 y.serial, .slice t2 y.tree.length ca2, .slice s2 y.stamps.length cb2]))
    (Lib.hid ⟨HS11.out.1.off (((Off.refl _ _).alloc _).alloc _), HS11.out.2.1.off (((Off.refl _ _).alloc _).alloc _), HS11.out.2.2.off (((Off.refl _ _).alloc _).alloc _), (Blk.new w11 _ _).alloc _, Blk.new1 w11 _ _ _⟩) ?_
  rintro W12 HW12; obtain ⟨g11, hg11⟩ : ∃ g11, w11.heap.size = g11 := ⟨_, rfl⟩
  rw [hg11] at HW12; rw [hg11]; clear hg11 HS11; have c1 := (HW12.out.1.blk (List.mem_cons_self ..)).cell; have l1 := (HW12.out.1.blk (List.mem_cons_self ..)).lt
  have HS1 := Lib.hid (show ∀ W', Off [] W12 W' → Calls Tryz.prog 48 #[(.agg #[.string x.pair, .int .i64 x.serial, .slice t1 x.tree.length ca, .slice s1 x.stamps.length cb]), (.agg #[.string x.pair, .int .i64 x.serial, .slice tx lx cx, .slice sx x.stamps.length dx])] W' fun e w' => e = .returned (.bool true) ∧ Off [] W' w' from fun W' ho => rf9same_any _ _ x W' (HW12.out.2.1.off ho) (HXA.out.1.off (HW12.out.1.since.trans_nil ho)) (by have := HLE.out; omega))
  have HS2 := Lib.hid (show ∀ W', Off [] W12 W' → Calls Tryz.prog 48 #[(.agg #[.string y.pair, .int .i64 y.serial, .slice t2 y.tree.length ca2, .slice s2 y.stamps.length cb2]), (.agg #[.string y.pair, .int .i64 y.serial, .slice ty ly cy, .slice sy y.stamps.length dy])] W' fun e w' => e = .returned (.bool true) ∧ Off [] W' w' from fun W' ho => rf9same_any _ _ y W' (HW12.out.2.2.1.off ho) (HXA.out.2.off (HW12.out.1.since.trans_nil ho)) (by have := HLE.out; omega))
  have c2 := HW12.out.2.2.2.1.cell; have l2 := HW12.out.2.2.2.1.lt
  go_wp2_with fail
  refine (HS1.out _ (Off.refl [] _)).mono ?_
  rintro e wA ⟨rfl, hoA⟩; have HOA := Lib.hid hoA; clear c1 l1 c2 l2 hoA; have c1 := ((HW12.out.1.blk (List.mem_cons_self ..)).off HOA.out (by simp)).cell; have l1 := ((HW12.out.1.blk (List.mem_cons_self ..)).off HOA.out (by simp)).lt; have c3 := (HW12.out.2.2.2.2.off HOA.out (by simp)).cell; have l3 := (HW12.out.2.2.2.2.off HOA.out (by simp)).lt
  go_wp2_with fail
  refine (HS2.out _ HOA.out).mono ?_
  rintro e wB ⟨rfl, hoB⟩; have HS14 := Lib.hid (HW12.out.1.off (HOA.out.trans_nil hoB)); clear hoB c1 l1 c3 l3 HW12 HS1 HS2 HOA
  go_upto_region 16 with fail
  have c8 := (HS14.out.blk (List.mem_cons_self ..)).cell; have l8 := (HS14.out.blk (List.mem_cons_self ..)).lt
  go_wp2_with fail
  refine (HS14.out.recover (by omega) (tell_enc HAO.out.1)).mono ?_
  rintro e wZ15 ⟨rfl, hS⟩; have Z15 := Lib.hid hS; clear hS c8 l8 HS14; have c8 := (Z15.out.blk (List.mem_cons_self ..)).cell; have l8 := (Z15.out.blk (List.mem_cons_self ..)).lt
  go_wp2_with fail
  refine (Z15.out.told (by omega) HXA.out.1 HLE.out.1 (tell_enc HAO.out.1) (oa := (some x)) (is := true) rfl (fun _ => rfl)).mono ?_
  rintro e wZ16 ⟨rfl, hS⟩; have Z16 := Lib.hid hS; clear hS c8 l8 Z15; have c8 := (Z16.out.blk (List.mem_cons_self ..)).cell; have l8 := (Z16.out.blk (List.mem_cons_self ..)).lt
  go_wp2_with fail
  refine (Z16.out.toldB (by omega) HXA.out.2 HLE.out.2 (tell_enc HAO.out.2) (ob := (some y)) (is := true) rfl (fun _ => rfl)).mono ?_
  rintro e wZ17 ⟨rfl, hS⟩; have Z17 := Lib.hid hS; clear hS c8 l8 Z16
  go_wp2_with fail
  refine (Z17.out.tree (by omega) HO.out HOK.out).mono ?_
  rintro e wT ⟨pT, cT, T, rfl, hRT, hkT, hoT, hoA⟩; have HZT := Lib.hid (And.intro hRT (And.intro hkT (And.intro hoT (Z17.out.since.trans_nil hoA)))); obtain ⟨kT, hkT'⟩ : ∃ kT, T.length = kT := ⟨_, rfl⟩
  rw [hkT']; have HKT := Lib.hid hkT'; clear hRT hkT hoT hoA Z17 hkT'
  go_wp2_with fail
  refine (outside_any pT T kT cT _ HZT.out.1 HKT.out (by have := okTree_len HZT.out.2.1; have := HKT.out; omega) (fun x hx => ((fits1_tree8 HZT.out.2.1) x hx).1)).mono ?_
  rintro e wU ⟨xx, rfl, hown, hoA⟩; rw [HZT.out.2.2.1] at hown; obtain ⟨pO, cO, rfl, hRO, -⟩ := own_row hown; have HZU := Lib.hid (And.intro (HZT.out.2.2.2.trans_nil hoA) (same_t (c := c) (cO := cO) HTR.out.1 HTR.out.2.1 HTR.out.2.2.2.1 (HZT.out.2.2.2.trans_nil hoA) hRO)); clear hown hRO hoA HZT HKT; rw [HTR.out.2.1] at HZU; rw [HTR.out.2.1]
  go_wp2_with fail
  refine HZU.out.2.mono ?_
  rintro e wV ⟨rfl, hoA⟩; have HZV := Lib.hid (HZU.out.1.trans_nil hoA); clear hoA HZU
  go_wp2_with fail
  go_ret
  exact ⟨rfl, HZV.out⟩
end
section
open Go.RowKit Go.Op Go.Maps
end
end Go.Proofs.YtoicjadioiomkaaGreatDoor
