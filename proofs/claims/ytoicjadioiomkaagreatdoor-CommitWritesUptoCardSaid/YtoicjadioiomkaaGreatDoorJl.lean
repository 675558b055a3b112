/- Texts of this claim, one behind the other: GlobS GlobL ScanP GlobG Seen HideLaw HideP Short LastOp AtR NumP CrcP ArcP ArcM NumW. Conditions: what each lemma states. -/
import Derived.Test.YtoicjadioiomkaaGreatDoorJj
import Derived.Test.YtoicjadioiomkaaGreatDoorJk
import Derived.Test.YtoicjadioiomkaaGreatDoorJa
import Derived.Test.YtoicjadioiomkaaGreatDoorJi
import Derived.Test.YtoicjadioiomkaaGreatDoorJc
import Derived.Test.YtoicjadioiomkaaGreatDoorJb
import Derived.StillTail
import Derived.Deep.RegionHeld
import Derived.Test.YtoicjadioiomkaaGreatDoorJd
import Derived.Laws.BitsAllLaws
import Derived.WalkSpells
import Derived.WalkLawsBesides
import Derived.Maps.AppendAt
import Derived.KernelRfl
set_option linter.unusedVariables false
set_option linter.unusedSimpArgs false
namespace Go.Proofs.YtoicjadioiomkaaGreatDoor
section
open Go.RowKit Go.Op Go.Maps
end
section
open Go.RowKit Go.Op
attribute [local go_sem] Oper.semAt_some
end
section
open Go.RowKit Go.Op Go.Maps
def ownB : ByteArray := ⟨#[46, 104, 97, 119, 115, 101, 114]⟩
theorem sorted_ext : ∀ {x y : List Node}, Sorted x → Sorted y → (∀ n, n ∈ x ↔ n ∈ y) → x = y
  | [], [], _, _, _ => rfl
  | [], b :: y, _, _, h => by have := (h b).2 (by simp); cases this
  | a :: x, [], _, _, h => by have := (h a).1 (by simp); cases this
  | a :: x, b :: y, hx, hy, h => by
    unfold Sorted at hx hy; rw [List.pairwise_cons] at hx hy; have irr : ∀ p : Str, ¬ order p p < 0 := fun p h => by rw [order_self] at h; omega
    have hab : a = b := by
      rcases List.mem_cons.1 ((h a).1 (by simp)) with e | ha
      · exact e
      rcases List.mem_cons.1 ((h b).2 (by simp)) with e | hb
      · exact e.symm
      exact absurd (order_trans (hx.1 b hb) (hy.1 a ha)) (irr _)
    subst hab
    congr 1
    refine sorted_ext hx.2 hy.2 fun n => ?_
    constructor
    · intro hn
      rcases List.mem_cons.1 ((h n).1 (List.mem_cons_of_mem _ hn)) with e | h1
      · subst e; exact absurd (hx.1 n hn) (irr _)
      exact h1
    intro hn
    rcases List.mem_cons.1 ((h n).2 (List.mem_cons_of_mem _ hn)) with e | h1
    · subst e; exact absurd (hy.1 n hn) (irr _)
    exact h1
end
section
open Go.RowKit Go.Op
end
section
open Go.RowKit Go.Op
end
section
open Go.RowKit Go.Op Go.Maps
section
variable {t : List Node} {path b : ByteArray}
end
end
section
open Go.RowKit Go.Op Go.Maps
end
section
open Go.RowKit Go.Op Go.Maps
def getB (t : List Node) (path : ByteArray) : Bool := okTree t && t.any fun n => decide (n.path = path)
theorem get6_res {W : World} {g : Nat} {nd : Node} {b : Bool} {tmps : Array Value} (h : Blk W g 30 #[.string nd.path, .int .i64 nd.kind, .string nd.data, .int .i64 nd.mode]) (h4 : tmps.getD 4 undef = .pointer (some ⟨g, 0, none⟩)) (h5 : tmps.getD 5 undef = .bool b) :
    (results Tryz.f14 tmps).run Tryz.prog W = .ok (.tuple #[nd.val, .bool b]) W := by
  have hc := h.cell; unfold Node.val; have h4' : tmps[4]?.getD undef = .pointer (some ⟨g, 0, none⟩) := by simpa using h4
  have h5' : tmps[5]?.getD undef = .bool b := by simpa using h5
  simp [results, Tryz.f14, go_sem, h4', h5', hc]
theorem four_set {W : World} {g : Nat} {ty : TypeId} {a b c d x y z u : Value} (h : Blk W g ty #[a, b, c, d]) : Blk ((((W.setCell ⟨g, 0, none⟩ x).setCell ⟨g, 1, none⟩ y).setCell ⟨g, 2, none⟩ z).setCell ⟨g, 3, none⟩ u) g ty #[x, y, z, u] := by
  simpa using (((h.set_ 0 x).set_ 1 y).set_ 2 z).set_ 3 u
theorem four_off {w W : World} {g : Nat} {x y z u : Value} (ho : Off [] w W) (hg : w.heap.size ≤ g) : Off [] w ((((W.setCell ⟨g, 0, none⟩ x).setCell ⟨g, 1, none⟩ y).setCell ⟨g, 2, none⟩ z).setCell ⟨g, 3, none⟩ u) :=
  (((ho.setCell (.inl hg) _).setCell (.inl hg) _).setCell (.inl hg) _).setCell (.inl hg) _
set_option maxRecDepth 100000 in
set_option maxHeartbeats 4000000 in
theorem rget6_any (p : Option Addr) (t : List Node) (n c : Nat) (path : ByteArray) (w : World) (hR : Row w p t) (hn : t.length = n) (hbig : n ≤ 1099511627776) (hF : Fits1 t) :
    Calls Tryz.prog 14 #[.slice p n c, .string path] w fun e w' => ∃ nd : Node, e = .returned (.tuple #[nd.val, .bool (getB t path)]) ∧ (getB t path = true → nd ∈ t ∧ nd.path = path) ∧ Off [] w w' := by
  have HR := Lib.hid hR; have HN := Lib.hid hn; have HF := Lib.hid hF; have HFI := Lib.hid (fun (W : World) (ho : Off [] w W) => find_any p t n c path W (hR.off ho) hn hbig); have HCK := Lib.hid (fun (W : World) (ho : Off [] w W) (v : Int) (hv : chkV t = v) => rcheck_v p t n c W (hR.off ho) hn hbig hF v hv); clear hR hn hF
  go_enter Tryz.func14, Tryz.ntmps14
  go_wp2_with fail
  have hoA := (Off.refl [] w).alloc (.cells #[.string ⟨#[]⟩, .int .i64 0, .string ⟨#[]⟩, .int .i64 0] 30); have HB := Lib.hid (Blk.new w 30 #[.string ⟨#[]⟩, .int .i64 0, .string ⟨#[]⟩, .int .i64 0]); refine (HFI.out _ hoA).mono ?_; rintro e w1 ⟨r, rfl, hf, ho1⟩; have HB1 := Lib.hid (HB.out.off ho1 (by simp)); have HO1 := Lib.hid (hoA.trans_nil ho1); clear hoA ho1
  rcases hf with ⟨rfl, hnone⟩ | ⟨i, x, rfl, hx, hxp, -⟩
  · have hb : getB t path = false := by
      unfold getB; rw [Bool.and_eq_false_iff]
      right
      rw [List.any_eq_false]
      intro y hy
      obtain ⟨j, hj⟩ := List.getElem?_of_mem hy
      simpa using hnone j y hj
    have HBF := Lib.hid hb; clear hb; have hcc := HB1.out.cell; have hff := HB1.out.frozen; have hll := HB1.out.lt
    go_wp2_with fail
    refine bodyPost_ret (v := .tuple #[Node.val ⟨⟨#[]⟩, 0, ⟨#[]⟩, 0⟩, .bool false]) (get6_res (g := w.heap.size) ?_ rfl rfl) rfl ?_
    · exact four_set HB1.out
    exact ⟨⟨⟨#[]⟩, 0, ⟨#[]⟩, 0⟩, by rw [HBF.out], (fun h => by rw [HBF.out] at h; cases h), four_off HO1.out (Nat.le_refl _)⟩
  have hil : i < n := by rw [← HN.out]; exact (List.getElem?_eq_some_iff.1 hx).1
  have hi0 : ¬ ((i : Int) < 0) := by omega
  cases hok : okTree t
  · have hb : getB t path = false := by unfold getB; rw [hok]; rfl
    have HBF := Lib.hid hb; have HC := Lib.hid (HCK.out w1 HO1.out 60 (chkV_bad hok)); clear hok hx hb
    go_wp2_with fail
    refine HC.out.mono ?_
    rintro e w2 ⟨rfl, ho2⟩; have HB2 := Lib.hid (HB1.out.off ho2 (by simp)); have HO2 := Lib.hid (HO1.out.trans_nil ho2); have hcc := HB2.out.cell; have hff := HB2.out.frozen; have hll := HB2.out.lt; clear ho2
    go_wp2_with fail
    refine bodyPost_ret (v := .tuple #[Node.val ⟨⟨#[]⟩, 0, ⟨#[]⟩, 0⟩, .bool false]) (get6_res (g := w.heap.size) ?_ rfl rfl) rfl ?_
    · exact four_set HB2.out
    exact ⟨⟨⟨#[]⟩, 0, ⟨#[]⟩, 0⟩, by rw [HBF.out], (fun h => by rw [HBF.out] at h; cases h), four_off HO2.out (Nat.le_refl _)⟩
  have hb : getB t path = true := by
    unfold getB; rw [hok, Bool.true_and, List.any_eq_true]; exact ⟨x, List.mem_of_getElem? hx, by simpa using hxp⟩
  have HBF := Lib.hid hb; have HC := Lib.hid (HCK.out w1 HO1.out 0 (chkV_ok hok)); have HX := Lib.hid hx; have HXP := Lib.hid hxp; clear hok hb hx hxp
  go_wp2_with fail
  refine HC.out.mono ?_
  rintro e w2 ⟨rfl, ho2⟩; have HB2 := Lib.hid (HB1.out.off ho2 (by simp)); have HO2 := Lib.hid (HO1.out.trans_nil ho2); have hcc := HB2.out.cell; have hff := HB2.out.frozen; have hll := HB2.out.lt; obtain ⟨a, rfl, hna, hab⟩ := (HR.out.off HO2.out).get i (by rw [HN.out]; exact hil)
  rw [(Option.some.inj ((List.getElem?_eq_getElem _).symm.trans HX.out) : t[i]'(by rw [HN.out]; exact hil) = x)] at hna; have c0 := hna.path; have c1 := hna.kind; have c2 := hna.data; have c3 := hna.mode; have habk : (a.add (i * 4)).block < w2.heap.size := by rw [add_block]; exact hab
  clear ho2 hna
  go_wp2_with fail
  refine bodyPost_ret (v := .tuple #[x.val, .bool true]) (get6_res (g := w.heap.size) ?_ rfl rfl) rfl ?_
  · exact four_set HB2.out
  exact ⟨x, by rw [HBF.out], fun _ => ⟨List.mem_of_getElem? HX.out, HXP.out⟩, four_off HO2.out (Nat.le_refl _)⟩
end
section
section
variable {P : Program} {ops : Array Oper} {md : Region.Mode} {Q : Exit → Act → World → Prop} {S : World → Prop} {n : Nat}
def wpAnyZ (P : Program) (md : Region.Mode) (ops : Array Oper) (Q : Exit → Act → World → Prop) (S : World → Prop) (n : Nat) : Nat → Array Bool → Act → World → Prop
  | 0, done, a, w => Region.ready md ops done = [] ∧ Q .normal a w
  | f + 1, done, a, w => (Region.ready md ops done = [] → Q .normal a w) ∧ ∀ i, i ∈ Region.ready md ops done → wpOp P ops Q i (fun a' w' => (i = n ∨ S w') ∧ wpAnyZ P md ops Q S n f (done.setIfInBounds i true) a' w') a w
theorem wpAnyZ.any : ∀ (f : Nat) (done : Array Bool) (a : Act) (w : World), wpAnyZ P md ops Q S n f done a w → wpAny P md ops Q f done a w
  | 0, _, _, _, h => h
  | f + 1, _, _, _, h => ⟨h.1, fun i hi => wpOp_mono (fun a' w' k => wpAnyZ.any f _ a' w' k.2) (h.2 i hi)⟩
theorem wpAnyZ.first {i : Nat} {o : Oper} {v : Value} (hi : ops[i]? = some o) (hsel : ∀ (j : Nat) (o : Oper) cs b, ops[j]? = some o → o.op ≠ .select cs b)
    (hQ : ∀ c a w, Q (.panic c) (a.put o.dst v) w → Q (.panic c) a w) (hs : Region.sinkB md ops n = true) (hc : Region.chainB md ops n = true) (hn : n < ops.size) (hin : i < n) :
    ∀ (f : Nat) (done : Array Bool) (a : Act) (w : World), HeadInv md ops n done →
      (∀ j oj, ops[j]? = some oj → j ≠ i → done.getD j true = false → (∀ e ∈ oj.after, Region.binds md e = true → e.on ≠ i) → o.apart ops oj = true) →
      i ∈ Region.ready md ops done → YieldsIf P ops S o v a → S w → wpAnyZ P md ops Q S n f (done.setIfInBounds i true) (a.put o.dst v) w → wpAnyZ P md ops Q S n (f + 1) done a w := by
  intro f
  induction f with
  | zero =>
    intro done a w inv hfree hr hy hS H
    refine ⟨fun e => (by rw [e] at hr; cases hr), fun j hj => ?_⟩
    by_cases e : j = i
    · rw [e]; exact hy.wpOp hi hS ⟨.inr hS, H⟩
    have := ready_mono hj e; rw [H.1] at this; cases this
  | succ f ih =>
    intro done a w inv hfree hr hy hS H
    have hun := (mem_ready.1 hr).1; refine ⟨fun e => (by rw [e] at hr; cases hr), fun j hj => ?_⟩; have hjn : j < n := Nat.lt_of_not_le fun hge => tail_waits hs hc hn inv _ i rfl hin hun j hge hj
    by_cases e : j = i
    · rw [e]; exact hy.wpOp hi hS ⟨.inr hS, H⟩
    obtain ⟨hju, oj, hoj, hall⟩ := mem_ready.1 hj; have hno : ∀ x ∈ oj.after, Region.binds md x = true → x.on ≠ i := fun x hx hb he => by
      have := hall x hx hb; rw [he, getD_both hun] at this
      cases this
    have hq := wpOp_putIf hoj (hfree j oj hoj e hju hno) (fun cs b => hsel i o cs b hi) (fun cs b => hsel j oj cs b hoj) hQ hy (H.2 j (ready_mono hj e)); refine wpOp_mono (fun a' w' hk => ?_) hq; have hS' : S w' := hk.2.1.resolve_left (by omega)
    refine ⟨.inr hS', ih (done.setIfInBounds j true) a' w' (inv.set hj hjn) (fun k ok hk2 hki hku hkn => ?_) (ready_mono hr (Ne.symm e)) hk.1 hS' ?_⟩
    · refine hfree k ok hk2 hki ?_ hkn
      by_cases ejk : j = k
      · rw [← ejk]; exact hju
      rwa [getD_set_ne true ejk] at hku
    rw [Array.setIfInBounds_comm _ _ e]; exact hk.2.2
def takesZ (P : Program) (ops : Array Oper) (S : World → Prop) (K : Act → Prop) : List Nat → Act → Prop
  | [], a => K a
  | i :: r, a => ∃ o v, ops[i]? = some o ∧ YieldsIf P ops S o v a ∧ takesZ P ops S K r (a.put o.dst v)
def runZ (P : Program) (ops : Array Oper) (Q : Exit → Act → World → Prop) (S : World → Prop) (n : Nat) : List Nat → Act → World → Prop
  | [], a, w => Q .normal a w
  | k :: r, a, w => wpOp P ops Q k (fun a' w' => (k = n ∨ S w') ∧ runZ P ops Q S n r a' w') a w
def tailZ (md : Region.Mode) (ops : Array Oper) : List Nat → Array Bool → Bool
  | [], done => (Region.ready md ops done).isEmpty
  | k :: r, done => decide (Region.ready md ops done = [k]) && tailZ md ops r (done.setIfInBounds k true)
def headZ (md : Region.Mode) (ops : Array Oper) (n : Nat) (t : List Nat) : List Nat → Array Bool → Bool
  | [], done => tailZ md ops t done
  | i :: r, done => decide (i < n) && (Region.ready md ops done).contains i && Region.free md ops done i && headZ md ops n t r (done.setIfInBounds i true)
theorem runZ.any : ∀ (t : List Nat) (done : Array Bool) (a : Act) (w : World), tailZ md ops t done = true → runZ P ops Q S n t a w → wpAnyZ P md ops Q S n t.length done a w
  | [], done, a, w, hB, h => ⟨by simpa [tailZ] using hB, h⟩
  | k :: r, done, a, w, hB, h => by
    simp only [tailZ, Bool.and_eq_true, decide_eq_true_eq] at hB
    refine ⟨fun e => (by rw [hB.1] at e; cases e), fun i hi => ?_⟩
    rw [hB.1] at hi; obtain rfl : i = k := by simpa using hi
    exact wpOp_mono (fun a' w' hk => ⟨hk.1, runZ.any r _ a' w' hB.2 hk.2⟩) h
theorem takesZ.any {t : List Nat} {w : World} (hsel : Region.noSelect ops = true) (hQ : ∀ d v c a w, Q (.panic c) (Act.put a d v) w → Q (.panic c) a w) (hs : Region.sinkB md ops n = true) (hc : Region.chainB md ops n = true) (hn : n < ops.size) (hS : S w) :
    ∀ (l : List Nat) (done : Array Bool) (a : Act), HeadInv md ops n done → headZ md ops n t l done = true → takesZ P ops S (fun a' => runZ P ops Q S n t a' w) l a → wpAnyZ P md ops Q S n (l.length + t.length) done a w
  | [], done, a, _, hB, h => by
    rw [List.length_nil, Nat.zero_add]; exact runZ.any t done a w hB h
  | i :: r, done, a, inv, hB, h => by
    obtain ⟨o, v, hi, hy, hk⟩ := h; simp only [headZ, Bool.and_eq_true, decide_eq_true_eq] at hB; have hr : i ∈ Region.ready md ops done := by simpa using hB.1.1.2
    rw [List.length_cons, show r.length + 1 + t.length = (r.length + t.length) + 1 by omega]; exact wpAnyZ.first hi (Region.noSelect_spec hsel) (fun c a w => hQ _ _ c a w) hs hc hn hB.1.1.1 _ done a w inv (Region.free_spec hi hB.1.2) hr hy hS (takesZ.any hsel hQ hs hc hn hS r _ _ (inv.set hr hB.1.1.1) hB.2 hk)
theorem wp_region_but_last {id : Nat} {a : Act} {w : World} (n : Nat) (l t : List Nat) (S : World → Prop) (hm : P.follows .mixedOrders = true) (hB : (Region.noSelect ops && Region.sinkB .any ops n && Region.chainB .any ops n && decide (n < ops.size) && decide (l.length + t.length = ops.size) && headZ .any ops n t l (Array.replicate ops.size false)) = true)
    (hQ : ∀ d v c a w, Q (.panic c) (Act.put a d v) w → Q (.panic c) a w) (hS : S w.drew) (h : takesZ P ops S (fun a' => runZ P ops Q S n t a' w.drew) l a) : (Code.region id ops true).wp P Q a w := by
  simp only [Bool.and_eq_true, decide_eq_true_eq] at hB
  obtain ⟨⟨⟨⟨⟨h1, h2⟩, h3⟩, h4⟩, h5⟩, h6⟩ := hB; have inv : HeadInv .any ops n (Array.replicate ops.size false) :=
    ⟨by simp, fun j oj _ hl => (by rw [getD_replicate_false] at hl; cases hl), fun t _ ht => getD_in (by simpa using ht) (getD_replicate_false _ _)⟩
  refine wp_region_any hm (wpAnyZ.any (S := S) (n := n) _ _ _ _ ?_)
  have := takesZ.any (md := .any) h1 hQ h2 h3 h4 hS l _ a inv h6 h
  rwa [h5] at this
theorem runZ_step {k : Nat} {o : Oper} {r : List Nat} {a : Act} {w : World} (ho : ops[k]? = some o)
    (h : ∀ K' : Act → World → Prop, Shut (∀ a w, (k = n ∨ S w) → runZ P ops Q S n r a w → K' a w) → if Region.wanted o (yielded ops a.tmps) = true then Oper.wp P o a w K' Q else K' (a.put o.dst undef) w) : runZ P ops Q S n (k :: r) a w :=
  wpOp_step ho (fun K' hK => h K' (fun a w hS hr => hK a w ⟨hS, hr⟩))
theorem takesZ_step {i : Nat} {o : Oper} {v : Value} {r : List Nat} {a : Act} {K : Act → Prop} (hi : ops[i]? = some o) (hw : Region.wanted o (yielded ops a.tmps) = true) (hy : ∀ w, S w → (execOp a.eval o).run P w = .ok (.value v) w) (h : takesZ P ops S K r (a.put o.dst v)) : takesZ P ops S K (i :: r) a := ⟨o, v, hi, .inl ⟨hw, hy⟩, h⟩
theorem takesZ_nil {a : Act} {K : Act → Prop} (h : K a) : takesZ P ops S K [] a := h
theorem runZ_nil {a : Act} {w : World} (h : Q .normal a w) : runZ P ops Q S n [] a w := h
end
end
section
open Go.RowKit Go.Op
section
variable {P : Program}
end
theorem fits1_tree8 {t : List Node} (h : okTree t = true) : Fits1 t := fun n hn => by
  have h1 := okTree_small h hn; have h2 := okTree_right h hn; refine ⟨by omega, ?_⟩; unfold rightN at h2
  split at h2
  · simp only [Bool.and_eq_true, decide_eq_true_eq] at h2; omega
  split at h2
  · simp only [Bool.and_eq_true, decide_eq_true_eq] at h2; omega
  split at h2
  · simp only [Bool.and_eq_true, decide_eq_true_eq] at h2; omega
  cases h2
def OwnT8 (t : List Node) (w : World) (e : Ending) (w' : World) : Prop :=
  ∃ x, e = .returned x ∧ w'.ownsRow w.heap.size 30 4 x t.length (cellsOf t) ∧ Off [] w w'
theorem four_at8 {w : World} {g : Nat} {t : TypeId} {a b c d : Value} (h : Blk w g t #[a, b, c, d]) : ∀ j u, [a, b, c, d][j]? = some u → w.cell? ((⟨g, 0, none⟩ : Addr).add j) = some u := by
  intro j u hj
  match j, hj with
  | 0, hj => rw [addr_add, h.cell]; simpa using hj
  | 1, hj => rw [addr_add, h.cell]; simpa using hj
  | 2, hj => rw [addr_add, h.cell]; simpa using hj
  | 3, hj => rw [addr_add, h.cell]; simpa using hj
  | j + 4, hj => simp at hj
theorem rwithin_w8 (a b : ByteArray) (w : World) (ha : a.size ≤ 1048576) (hb : b.size ≤ 1048576) (v : Bool) (hv : within (str a) (str b) = v) :
    Calls Tryz.prog 60 #[.string a, .string b] w fun e w' => e = .returned (.bool v) ∧ Off [] w w' := hv ▸ rwithin_any a b w ha hb
end
section
namespace Pl
def numF : Nat → Nat → List UInt8
  | 0, n => [UInt8.ofNat n]
  | f + 1, n => if n < 128 then [UInt8.ofNat n] else UInt8.ofNat (128 + n % 128) :: numF f (n / 128)
def num (n : Nat) : List UInt8 := numF n n
theorem numF_fuel : ∀ (f g n : Nat), n ≤ f → n ≤ g → numF f n = numF g n
  | 0, 0, n, _, _ => rfl
  | 0, g + 1, n, h, _ => by
    have : n = 0 := by omega
    subst this; simp [numF]
  | f + 1, 0, n, _, h => by
    have : n = 0 := by omega
    subst this; simp [numF]
  | f + 1, g + 1, n, hf, hg => by
    unfold numF
    split
    · rfl
    rw [numF_fuel f g (n / 128) (by omega) (by omega)]
theorem num_small {n : Nat} (h : n < 128) : num n = [UInt8.ofNat n] := by
  unfold num
  cases n with
  | zero => rfl
  | succ k => unfold numF; rw [if_pos h]
theorem num_big {n : Nat} (h : 128 ≤ n) : num n = UInt8.ofNat (128 + n % 128) :: num (n / 128) := by
  unfold num
  cases n with
  | zero => omega
  | succ k =>
    conv => lhs; unfold numF
    rw [if_neg (by omega), numF_fuel k ((k + 1) / 128) ((k + 1) / 128) (by omega) (by omega)]
theorem num_len : ∀ (k n : Nat), n < 128 ^ (k + 1) → (num n).length ≤ k + 1 := by
  intro k
  induction k with
  | zero => intro n h; rw [num_small (by simpa using h)]; simp
  | succ k ih =>
    intro n h
    by_cases hn : n < 128
    · rw [num_small hn]; simp
    rw [num_big (by omega)]; have := ih (n / 128) (by rw [Nat.pow_succ] at h; omega); simp; omega
theorem num_pos (n : Nat) : 1 ≤ (num n).length := by
  by_cases hn : n < 128
  · rw [num_small hn]; simp
  rw [num_big (by omega)]; simp
structure Mid (n i k acc : Nat) : Prop where
  lo : acc < 128 ^ i
  sum : n = acc + k * 128 ^ i
  pos : 0 < i → 0 < k
theorem Mid.start (n : Nat) : Mid n 0 n 0 := ⟨by simp, by simp, fun h => absurd h (by omega)⟩
theorem Mid.next {n i k acc : Nat} (h : Mid n i k acc) (hk : 128 ≤ k) : Mid n (i + 1) (k / 128) (acc + k % 128 * 128 ^ i) := by
  have h1 : k % 128 * 128 ^ i ≤ 127 * 128 ^ i := Nat.mul_le_mul_right _ (by omega)
  have h2 := h.lo; refine ⟨by rw [Nat.pow_succ]; omega, ?_, fun _ => by omega⟩; have h3 : k * 128 ^ i = k % 128 * 128 ^ i + k / 128 * 128 ^ (i + 1) := by
    rw [Nat.pow_succ, ← Nat.mul_assoc, Nat.mul_right_comm (k / 128), ← Nat.add_mul]
    congr 1
    omega
  rw [h.sum, h3]; omega
theorem Mid.lt {n i k acc : Nat} (h : Mid n i k acc) (hn : n < 9223372036854775808) : i < 9 := by
  rcases Nat.lt_or_ge i 9 with h9 | h9
  · exact h9
  exfalso
  have h1 := h.pos (by omega); have h2 : 128 ^ 9 ≤ 128 ^ i := Nat.pow_le_pow_right (by omega) h9
  have h3 : 1 * 128 ^ i ≤ k * 128 ^ i := Nat.mul_le_mul_right _ h1
  have h4 := h.sum; have h5 : (128 : Nat) ^ 9 = 9223372036854775808 := by decide
  omega
theorem Mid.or_ {i acc : Nat} (c : Nat) (h2 : acc < 128 ^ i) : acc ||| c * 128 ^ i = acc + c * 128 ^ i := by
  have e : (128 : Nat) ^ i = 2 ^ (7 * i) := by rw [Nat.pow_mul]
  rw [e] at h2 ⊢; rw [Nat.mul_comm c, Nat.or_comm, ← Nat.two_pow_add_eq_or_of_lt h2, Nat.add_comm]
end Pl
end
section
namespace Crc
def bit1 (v : BitVec 32) : BitVec 32 := if v.getLsbD 0 then (v >>> 1) ^^^ 0xEDB88320#32 else v >>> 1
theorem bit1_xor (a b : BitVec 32) : bit1 (a ^^^ b) = bit1 a ^^^ bit1 b := by
  unfold bit1; rw [BitVec.getLsbD_xor, BitVec.ushiftRight_xor_distrib]
  cases a.getLsbD 0 <;> cases b.getLsbD 0 <;> simp
  · rw [BitVec.xor_assoc]
  · rw [BitVec.xor_assoc, BitVec.xor_comm (b >>> 1), ← BitVec.xor_assoc, BitVec.xor_comm (a >>> 1)]
  rw [BitVec.xor_assoc, ← BitVec.xor_assoc (3988292384#32), BitVec.xor_comm (3988292384#32) (b >>> 1), BitVec.xor_assoc, BitVec.xor_self, BitVec.xor_zero]
theorem bit1_inj {a b : BitVec 32} (h : bit1 a = bit1 b) : a = b := by
  have hm : ∀ x : BitVec 32, (bit1 x).getLsbD 31 = x.getLsbD 0 := fun x => by
    unfold bit1
    cases hx : x.getLsbD 0 <;> simp
  have h0 : a.getLsbD 0 = b.getLsbD 0 := by rw [← hm a, ← hm b, h]
  have hs : a >>> 1 = b >>> 1 := by
    unfold bit1 at h; rw [h0] at h
    cases hb : b.getLsbD 0
    · rw [hb] at h; simpa using h
    rw [hb] at h; simp only [if_true] at h; have := congrArg (fun x => x ^^^ 0xEDB88320#32) h
    simpa [BitVec.xor_assoc] using this
  apply BitVec.eq_of_getLsbD_eq
  intro i hi
  cases i with
  | zero => exact h0
  | succ i =>
    have := congrArg (fun x => x.getLsbD i) hs; simp only [BitVec.getLsbD_ushiftRight] at this
    rwa [Nat.add_comm] at this
def bits4 (v : BitVec 32) : BitVec 32 := bit1 (bit1 (bit1 (bit1 v)))
def tab (i : Nat) : BitVec 32 := bits4 (BitVec.ofNat 32 i)
theorem bit1_even {v : BitVec 32} (h : v.getLsbD 0 = false) : bit1 v = v >>> 1 := by unfold bit1; rw [h]; rfl
def nib (v : BitVec 32) : BitVec 32 := (v >>> 4) ^^^ tab (v.toNat % 16)
theorem nib_eq (v : BitVec 32) : nib v = bits4 v := by
  have hv : v = ((v >>> 4) <<< 4) ^^^ BitVec.ofNat 32 (v.toNat % 16) := by
    apply BitVec.eq_of_getLsbD_eq
    intro i hi
    rw [BitVec.getLsbD_xor, BitVec.getLsbD_shiftLeft, BitVec.getLsbD_ushiftRight, BitVec.getLsbD_ofNat]; have hb : (v.toNat % 16).testBit i = (decide (i < 4) && v.getLsbD i) := by
      rw [show (16 : Nat) = 2 ^ 4 from rfl, Nat.testBit_mod_two_pow]; rfl
    rw [hb]
    by_cases h4 : i < 4
    · simp [h4, hi]
    have : 4 + (i - 4) = i := by omega
    simp [h4, hi, this]
  have hs : bits4 ((v >>> 4) <<< 4) = v >>> 4 := by
    unfold bits4; have e : ∀ (k : Nat), k ≤ 4 → 0 < k → bit1 (((v >>> 4) <<< k)) = (v >>> 4) <<< (k - 1) := fun k h1 h2 => by
      rw [bit1_even (by rw [BitVec.getLsbD_shiftLeft]; simp [h2])]
      apply BitVec.eq_of_getLsbD_eq
      intro i hi
      rw [BitVec.getLsbD_ushiftRight, BitVec.getLsbD_shiftLeft, BitVec.getLsbD_shiftLeft, BitVec.getLsbD_ushiftRight, BitVec.getLsbD_ushiftRight]
      by_cases hk : i < k - 1
      · have : 1 + i < k := by omega
        simp [hk, this]
      have h3 : ¬ 1 + i < k := by omega
      have h5 : 4 + (1 + i - k) = 4 + (i - (k - 1)) := by omega
      rw [h5]
      by_cases h6 : 1 + i < 32
      · simp [hk, h3, h6, hi]
      have h7 : v.getLsbD (4 + (i - (k - 1))) = false := BitVec.getLsbD_of_ge _ _ (by omega)
      simp [h7]
    rw [e 4 (by omega) (by omega), e 3 (by omega) (by omega), e 2 (by omega) (by omega), e 1 (by omega) (by omega)]; simp
  conv => rhs; rw [hv]
  unfold nib tab; have hx : ∀ a b : BitVec 32, bits4 (a ^^^ b) = bits4 a ^^^ bits4 b := fun a b => by unfold bits4; rw [bit1_xor, bit1_xor, bit1_xor, bit1_xor]
  rw [hx, hs]
def step (v : BitVec 32) (b : UInt8) : BitVec 32 := nib (nib (v ^^^ BitVec.ofNat 32 b.toNat))
def stepR (v : BitVec 32) (b : UInt8) : BitVec 32 := bits4 (bits4 (v ^^^ BitVec.ofNat 32 b.toNat))
theorem step_eq (v : BitVec 32) (b : UInt8) : step v b = stepR v b := by unfold step stepR; rw [nib_eq, nib_eq]
theorem bits4_inj {a b : BitVec 32} (h : bits4 a = bits4 b) : a = b := bit1_inj (bit1_inj (bit1_inj (bit1_inj h)))
theorem step_inj_v {a b : BitVec 32} {c : UInt8} (h : step a c = step b c) : a = b := by
  rw [step_eq, step_eq] at h; have := bits4_inj (bits4_inj h); have := congrArg (fun x => x ^^^ BitVec.ofNat 32 c.toNat) this
  simpa [BitVec.xor_assoc] using this
theorem step_inj_b {v : BitVec 32} {b c : UInt8} (h : step v b = step v c) : b = c := by
  rw [step_eq, step_eq] at h; have := bits4_inj (bits4_inj h); have := congrArg (fun x => v ^^^ x) this; simp only [← BitVec.xor_assoc, BitVec.xor_self, BitVec.zero_xor] at this; have := congrArg BitVec.toNat this; simp only [BitVec.toNat_ofNat] at this; have h1 := b.toNat_lt; have h2 := c.toNat_lt
  apply UInt8.toNat_inj.1
  omega
def run (v : BitVec 32) (l : Str) : BitVec 32 := l.foldl step v
theorem run_append (v : BitVec 32) (a b : Str) : run v (a ++ b) = run (run v a) b := List.foldl_append ..
theorem run_cons (v : BitVec 32) (b : UInt8) (l : Str) : run v (b :: l) = run (step v b) l := rfl
theorem run_inj : ∀ {l : Str} {a b : BitVec 32}, run a l = run b l → a = b
  | [], _, _, h => h
  | _ :: l, _, _, h => step_inj_v (run_inj (l := l) h)
def crc (l : Str) : BitVec 32 := ~~~ run (~~~ 0#32) l
theorem crc_one {a b : Str} {x y : UInt8} (h : crc (a ++ x :: b) = crc (a ++ y :: b)) : x = y := by
  unfold crc at h; have h := BitVec.not_inj.1 h; rw [run_append, run_append, run_cons, run_cons] at h; exact step_inj_b (run_inj h)
end Crc
end
section
open Go.RowKit
structure Arc where
  pair : ByteArray
  serial : Int
  tree : List Node
  stamps : List (Int × Int × Int)
def digitB (b : UInt8) : Bool := (decide (48 ≤ b.toNat) && decide (b.toNat ≤ 57)) || (decide (97 ≤ b.toNat) && decide (b.toNat ≤ 102))
def digitsV (s : ByteArray) : Bool := decide (s.size = 64) && (str s).all digitB
def bareN (n : Node) : Bool := decide (n.kind = 2) || digitsV n.data
def bareV (t : List Node) : Bool := okTree t && t.all bareN
def stmOk (s : Int × Int × Int) : Bool := decide (0 ≤ s.1) && (decide (0 ≤ s.2.1) && decide (0 ≤ s.2.2))
def okArc (a : Arc) : Bool := decide (1 ≤ a.pair.size) && (decide (a.pair.size ≤ 64) && (decide (0 ≤ a.serial) && (bareV a.tree && (decide (a.stamps.length = a.tree.length) && a.stamps.all stmOk))))
def matchV (a b : Arc) : Bool := okArc a && (okArc b && (decide (a.pair = b.pair) && (decide (a.serial = b.serial) && decide (a.tree = b.tree))))
def numB (n : Int) : Str := Pl.num n.toNat
def txtB (s : ByteArray) : Str := Pl.num s.size ++ str s
def nodeB (x : Node × (Int × Int × Int)) : Str := txtB x.1.path ++ (numB x.1.kind ++ (numB x.1.mode ++ (txtB x.1.data ++ (numB x.2.1 ++ (numB x.2.2.1 ++ numB x.2.2.2)))))
def magicB : ByteArray := ⟨#[104, 97, 119, 115, 101, 114, 32, 49]⟩
def itemsA (a : Arc) : List (Node × (Int × Int × Int)) := a.tree.zip a.stamps
def itemsB (l : List (Node × (Int × Int × Int))) : Str := l.flatMap nodeB
def bodyB (a : Arc) : Str := txtB magicB ++ (txtB a.pair ++ (numB a.serial ++ (numB a.tree.length ++ itemsB (itemsA a))))
def fourB (n : Nat) : Str := [UInt8.ofNat (n / 16777216), UInt8.ofNat (n / 65536), UInt8.ofNat (n / 256), UInt8.ofNat n]
def packB (p : Str) : Str := fourB p.length ++ (fourB (Crc.crc (fourB p.length ++ p)).toNat ++ p)
def encV (a : Arc) : ByteArray := ⟨(packB (bodyB a)).toArray⟩
theorem fourB_len (n : Nat) : (fourB n).length = 4 := rfl
def numF (a b c d : UInt8) : Nat := a.toNat * 16777216 + b.toNat * 65536 + c.toNat * 256 + d.toNat
theorem numF_lt (a b c d : UInt8) : numF a b c d < 4294967296 := by
  unfold numF; have := a.toNat_lt; have := b.toNat_lt; have := c.toNat_lt; have := d.toNat_lt; omega
theorem numF_inj {a b c d a' b' c' d' : UInt8} (h : numF a b c d = numF a' b' c' d') : a = a' ∧ b = b' ∧ c = c' ∧ d = d' := by
  unfold numF at h; have := a.toNat_lt; have := b.toNat_lt; have := c.toNat_lt; have := d.toNat_lt; have := a'.toNat_lt; have := b'.toNat_lt; have := c'.toNat_lt; have := d'.toNat_lt; refine ⟨?_, ?_, ?_, ?_⟩ <;> apply UInt8.toNat_inj.1 <;> omega
theorem numF_four {n : Nat} (h : n < 4294967296) : numF (UInt8.ofNat (n / 16777216)) (UInt8.ofNat (n / 65536)) (UInt8.ofNat (n / 256)) (UInt8.ofNat n) = n := by
  unfold numF; simp only [UInt8.toNat_ofNat']; omega
theorem fourB_numF (a b c d : UInt8) : fourB (numF a b c d) = [a, b, c, d] := by
  have h := numF_four (numF_lt a b c d); obtain ⟨h1, h2, h3, h4⟩ := numF_inj h; unfold fourB; rw [h1, h2, h3, h4]
def oneV (s : Str) : Option Str :=
  match s with
  | a :: b :: c :: d :: e :: f :: g :: h :: p =>
    if numF a b c d = p.length ∧ p.length ≤ 1048576 ∧ numF e f g h = (Crc.crc ([a, b, c, d] ++ p)).toNat then some p else none
  | _ => none
theorem oneV_pack {p : Str} (h : p.length ≤ 1048576) : oneV (packB p) = some p := by
  have h1 : numF (UInt8.ofNat (p.length / 16777216)) (UInt8.ofNat (p.length / 65536)) (UInt8.ofNat (p.length / 256)) (UInt8.ofNat p.length) = p.length := numF_four (by omega)
  have h2 := numF_four (n := (Crc.crc (fourB p.length ++ p)).toNat) (BitVec.isLt _); unfold packB oneV; simp only [fourB, List.cons_append, List.nil_append] at h2 ⊢; rw [if_pos ⟨h1, h, h2⟩]
theorem oneV_some {s p : Str} (h : oneV s = some p) : s = packB p ∧ p.length ≤ 1048576 := by
  unfold oneV at h
  split at h
  · split at h
    · rename_i a b c d e f g k q hh
      injection h with h
      subst h; obtain ⟨h1, h2, h3⟩ := hh; refine ⟨?_, h2⟩; unfold packB; rw [← h1, fourB_numF, ← h3, fourB_numF]
      rfl
    cases h
  cases h
theorem packB_len (p : Str) : (packB p).length = 8 + p.length := by unfold packB; simp only [List.length_append, fourB_len]; omega
theorem set_split {l : Str} {i : Nat} {y : UInt8} (h : i < l.length) : ∃ a x b, l = a ++ x :: b ∧ l.set i y = a ++ y :: b ∧ l[i]? = some x := by
  refine ⟨l.take i, l[i], l.drop (i + 1), ?_, ?_, List.getElem?_eq_getElem h⟩
  · rw [List.getElem_cons_drop, List.take_append_drop]
  rw [List.set_eq_take_append_cons_drop, if_pos h]
theorem oneV_hit {p : Str} (hp : p.length ≤ 1048576) {i : Nat} {y : UInt8} (hi : i < (packB p).length) (hy : (packB p)[i]? ≠ some y) : oneV ((packB p).set i y) = none := by
  cases hq : oneV ((packB p).set i y) with
  | none => rfl
  | some q =>
    exfalso
    obtain ⟨h1, h2⟩ := oneV_some hq; have hl : p.length = q.length := by
      have := congrArg List.length h1; rw [List.length_set, packB_len, packB_len] at this; omega
    unfold packB at h1 hi hy; rw [← hl] at h1
    by_cases h4 : i < 4
    · rw [List.set_append_left _ _ (by rw [fourB_len]; exact h4)] at h1
      have h5 := (List.append_inj h1 (by rw [List.length_set])).1; rw [List.getElem?_append_left (by rw [fourB_len]; exact h4)] at hy; obtain ⟨a, x, b, e1, e2, e3⟩ := set_split (l := fourB p.length) (i := i) (y := y) (by rw [fourB_len]; exact h4); rw [e2, e1] at h5; have h6 := (List.append_inj h5 rfl).2; injection h6 with h6 _
      exact hy (by rw [e3, h6])
    rw [List.set_append_right _ _ (by rw [fourB_len]; omega)] at h1; have h5 := (List.append_inj h1 rfl).2; rw [List.getElem?_append_right (by rw [fourB_len]; omega)] at hy; rw [fourB_len] at h5 hy
    by_cases h8 : i - 4 < 4
    · rw [List.set_append_left _ _ (by rw [fourB_len]; exact h8)] at h5
      obtain ⟨h6, h7⟩ := List.append_inj h5 (by rw [List.length_set, fourB_len, fourB_len]); subst h7; rw [List.getElem?_append_left (by rw [fourB_len]; exact h8)] at hy; obtain ⟨a, x, b, e1, e2, e3⟩ := set_split (l := fourB (Crc.crc (fourB p.length ++ p)).toNat) (i := i - 4) (y := y) (by rw [fourB_len]; exact h8); rw [e2, e1] at h6; have h9 := (List.append_inj h6 rfl).2
      injection h9 with h9 _
      exact hy (by rw [e3, h9])
    rw [List.set_append_right _ _ (by rw [fourB_len]; omega)] at h5; rw [fourB_len] at h5; obtain ⟨h6, h7⟩ := List.append_inj h5 rfl; rw [List.getElem?_append_right (by rw [fourB_len]; omega), fourB_len] at hy; have hi' : i - 4 - 4 < p.length := by simp only [List.length_append, fourB_len] at hi; omega
    obtain ⟨a, x, b, e1, e2, e3⟩ := set_split (l := p) (i := i - 4 - 4) (y := y) hi'; have e6 : (Crc.crc (fourB p.length ++ p)) = (Crc.crc (fourB p.length ++ q)) := by
      have k1 := numF_four (n := (Crc.crc (fourB p.length ++ p)).toNat) (BitVec.isLt _); have k2 := numF_four (n := (Crc.crc (fourB p.length ++ q)).toNat) (BitVec.isLt _); unfold fourB at h6; injection h6 with m1 h6
      injection h6 with m2 h6
      injection h6 with m3 h6
      injection h6 with m4 _
      unfold fourB at k1 k2; rw [m1, m2, m3, m4, k2] at k1; exact BitVec.eq_of_toNat_eq k1.symm
    rw [← h7, e2] at e6; have e7 : Crc.crc (fourB p.length ++ a ++ x :: b) = Crc.crc (fourB p.length ++ a ++ y :: b) := by
      rw [List.append_assoc, List.append_assoc, ← e1]; exact e6
    have := Crc.crc_one e7; exact hy (by rw [e3, this])
end
section
open Go.RowKit Go.Op
structure StmAt (w : World) (a : Addr) (s : Int × Int × Int) : Prop where
  i0 : w.cell? a = some (.int .i64 s.1)
  i1 : w.cell? ⟨a.block, a.off + 1, none⟩ = some (.int .i64 s.2.1)
  i2 : w.cell? ⟨a.block, a.off + 2, none⟩ = some (.int .i64 s.2.2)
def SRow3 (w : World) (p : Option Addr) (t : List (Int × Int × Int)) : Prop :=
  t ≠ [] → ∃ a, p = some a ∧ a.block < w.heap.size ∧ ∀ (i : Nat) n, t[i]? = some n → StmAt w (a.add (i * 3)) n
theorem StmAt.off {w w' : World} {a : Addr} {n : Int × Int × Int} (h : StmAt w a n) (ho : Off [] w w') (hb : a.block < w.heap.size) : StmAt w' a n :=
  ⟨(ho.cell hb (by simp)).trans h.i0, (ho.cell (p := ⟨a.block, a.off + 1, none⟩) hb (by simp)).trans h.i1, (ho.cell (p := ⟨a.block, a.off + 2, none⟩) hb (by simp)).trans h.i2⟩
theorem SRow3.off {w w' : World} {p : Option Addr} {t : List (Int × Int × Int)} (h : SRow3 w p t) (ho : Off [] w w') : SRow3 w' p t := fun hne => by
  obtain ⟨a, rfl, hb, hn⟩ := h hne; exact ⟨a, rfl, Nat.lt_of_lt_of_le hb ho.size, fun i n hi => (hn i n hi).off ho (by rw [add_block]; exact hb)⟩
theorem SRow3.get {w : World} {p : Option Addr} {t : List (Int × Int × Int)} (h : SRow3 w p t) (i : Nat) (hi : i < t.length) : ∃ a, p = some a ∧ StmAt w (a.add (i * 3)) t[i] ∧ a.block < w.heap.size := by
  obtain ⟨a, rfl, hb, hn⟩ := h (by intro e; subst e; simp at hi); exact ⟨a, rfl, hn i _ (List.getElem?_eq_getElem hi), hb⟩
structure ArcAt (w : World) (v : Value) (a : Arc) : Prop where
  ex : ∃ tp c sp d, v = .agg #[.string a.pair, .int .i64 a.serial, .slice tp a.tree.length c, .slice sp a.stamps.length d] ∧ Row w tp a.tree ∧ SRow3 w sp a.stamps ∧ a.tree.length ≤ c ∧ c ≤ maxLen ∧ a.stamps.length ≤ d ∧ d ≤ maxLen ∧ (tp = none → a.tree = [] ∧ c = 0)
  fits : Fits a.tree
  len : a.tree.length ≤ 10000000000000 ∧ a.stamps.length ≤ 10000000000000
  ps : a.pair.size ≤ maxLen
  ser : -9223372036854775808 ≤ a.serial ∧ a.serial ≤ 9223372036854775807
  st : ∀ s ∈ a.stamps, (-9223372036854775808 ≤ s.1 ∧ s.1 ≤ 9223372036854775807) ∧ (-9223372036854775808 ≤ s.2.1 ∧ s.2.1 ≤ 9223372036854775807) ∧ (-9223372036854775808 ≤ s.2.2 ∧ s.2.2 ≤ 9223372036854775807)
theorem ArcAt.off {w w' : World} {v : Value} {a : Arc} (h : ArcAt w v a) (ho : Off [] w w') : ArcAt w' v a := by
  obtain ⟨⟨tp, c, sp, d, h1, h2, h3, h4⟩, h5, h6, h7, h8, h9⟩ := h; exact ⟨⟨tp, c, sp, d, h1, h2.off ho, h3.off ho, h4⟩, h5, h6, h7, h8, h9⟩
end
section
open Go.RowKit Go.Op
theorem infoU8 : (Tryz.prog.info? 5).map (fun i => (i.zero, i.size, i.bytes)) = some (some (.int .u8 0), 1, 1) := by kernel_rfl
def byteV (c : UInt8) : Value := .int .u8 c.toNat
def NumPost (w : World) (n : Nat) (e : Ending) (w' : World) : Prop := e = .returned (.string ⟨(Pl.num n).toArray⟩) ∧ Off [] w w'
theorem or128 : ∀ x : Fin 256, bits BinOp.or IntKind.u8 ((x.val : Nat) : Int) 128 = ((UInt8.ofNat (128 + x.val % 128)).toNat : Int) := by decide +kernel
theorem or_byte (k : Nat) : bits BinOp.or IntKind.u8 ((k : Int) % 256) 128 = ((UInt8.ofNat (128 + k % 128)).toNat : Int) := by
  have h := or128 ⟨k % 256, Nat.mod_lt _ (by omega)⟩; simp only [] at h; rw [show ((k : Int) % 256) = ((k % 256 : Nat) : Int) by omega, h, show k % 256 % 128 = k % 128 by omega]
theorem run_own_string {w : World} {base n : Nat} {v : Value} {l : List UInt8} (h : w.ownsRow base 5 1 v (n + 1) (l.map byteV)) :
    (convert 96 9 v).run Tryz.prog w = .ok (.string ⟨l.toArray⟩) w := by
  obtain ⟨g, cap, rfl⟩ := ownsRow_succ h; have hl : l.length = n + 1 := by have := h.1; simpa using this
  rw [← hl]; refine run_convert_bytes_back w 96 9 5 _ cap l Tryz.underlying96 Tryz.underlying5 Tryz.underlying9 ?_
  intro j hj
  rw [addr_add]; have := h.cells (g := g) rfl j (byteV l[j]) (by simp [hj])
  simpa [byteV, addr_add] using this
theorem numOff_end {w wr w1 : World} {b : Value} {n : Nat} {xs : List Value} {o : Obj} (hoff : Off [] w wr) (hown : wr.ownsRow w.heap.size 5 1 b n xs) (hg : (wr.alloc o).grownBy w1 b.ownBlock) : Off [] w w1 := by
  refine (hoff.alloc o).grown hg (fun g hg' => .inl ?_)
  rcases hown.2 with ⟨rfl, _⟩ | ⟨g', cap, cur, rfl, hb, _⟩
  · cases hg'
  cases hg'; exact hb
def NumRel (w : World) (n : Nat) (x b : Value) (wr : World) : Prop :=
  ∃ (k : Nat) (bs : List UInt8), k ≤ n ∧ bs.length ≤ 10 ∧ x = .int .i64 k ∧ wr.ownsRow w.heap.size 5 1 b bs.length (bs.map byteV) ∧ Hid (bs ++ Pl.num k = Pl.num n) ∧ Off [] w wr
theorem numRel_step {w wr w1 : World} {n k : Nat} {bs : List UInt8} {b v' : Value} {o : Obj} (hn : n < 9223372036854775808) (hk : k ≤ n) (hlt : 127 < k) (HB : Hid (bs ++ Pl.num k = Pl.num n)) (hoff : Off [] w wr)
    (hown : wr.ownsRow w.heap.size 5 1 b bs.length (bs.map byteV))
    (hown' : w1.ownsRow w.heap.size 5 1 v' (bs.length + 1) (bs.map byteV ++ [.int .u8 ((UInt8.ofNat (128 + k % 128)).toNat : Int)])) (hg : (wr.alloc o).grownBy w1 b.ownBlock) : NumRel w n (.int .i64 ((k / 128 : Nat) : Int)) v' w1 := by
  have HB' := HB.out; rw [Pl.num_big (by omega)] at HB'; refine ⟨k / 128, bs ++ [UInt8.ofNat (128 + k % 128)], by omega, ?_, rfl, ?_, ?_, ?_⟩
  · have h1 := congrArg List.length HB'
    have h2 := Pl.num_len 9 n (by omega); have h3 := Pl.num_pos (k / 128); simp at h1 ⊢; omega
  · simpa [byteV] using hown'
  · show _ = _
    rw [← HB']; simp
  exact numOff_end hoff hown hg
set_option maxRecDepth 100000 in
set_option maxHeartbeats 800000 in
theorem num_any (n : Nat) (w : World) (hn : n < 9223372036854775808) : Calls Tryz.prog 199 #[.int .i64 n] w (NumPost w n) := by
  obtain ⟨i0, hi, hz0, hz1, hz2⟩ := info_parts infoU8; have h0 : decide ((n : Int) < 0) = false := by simp
  go_enter Tryz.func199, Tryz.ntmps199
  go_wp2_with fail
  go_loopw [0, 3] (fun x b wr => NumRel w n x b wr) (fun x _ _ => (intOf x).toNat)
  case atStart => exact ⟨n, [], Nat.le_refl _, by simp, rfl, ⟨rfl, .inl ⟨rfl, rfl⟩⟩, rfl, Off.refl _ _⟩
  case round =>
    obtain ⟨k, bs, hk, hlen, rfl, hown, HB, hoff⟩ := hrel
    by_cases hlt : 127 < k
    · have hbit := or_byte k
      go_wp2_with (at_builtin; refine wpList_append_own _ rfl _ _ 96 rfl w.heap.size 5 i0 (.int .u8 0) 1 1 Tryz.underlying96 hi hz0 hz1 hz2 rfl (by decide) _ _ _ rfl (hown.alloc _) ⟨wr.heap.size, 0, none⟩ 1 1 [_] rfl rfl (cell_one_new _ _ _) (by simp [Value.oneCell']) (by unfold maxLen; omega) (by omega) (by have := hoff.size; simp; omega) ?_; intro v' w1 hown' hgrow _)
      go_roundw
      case rel => exact numRel_step hn hk hlt HB hoff hown hown' hgrow
      case measure => simp [intOf]; omega
    have hbit : (k : Int) = ((UInt8.ofNat k).toNat : Int) := by simp; omega
    have hfin : Pl.num n = bs ++ [UInt8.ofNat k] := by rw [← HB.out, Pl.num_small (by omega)]
    have HF := Lib.hid hfin; have HK := Lib.hid hbit; clear hfin hbit
    go_wp2_with (first | (at_builtin; refine wpList_append_own _ rfl _ _ 96 rfl w.heap.size 5 i0 (.int .u8 0) 1 1 Tryz.underlying96 hi hz0 hz1 hz2 rfl (by decide) _ _ _ rfl (hown.alloc _) ⟨wr.heap.size, 0, none⟩ 1 1 [_] rfl rfl (cell_one_new _ _ _) (by simp [Value.oneCell']) (by unfold maxLen; omega) (by omega) (by have := hoff.size; simp; omega) ?_; intro v' w1 hown' hgrow _; have hcv := run_own_string (l := bs ++ [UInt8.ofNat k]) (by rw [HK.out] at hown'; simpa [byteV] using hown')))
    go_ret
    exact ⟨by rw [← HF.out]; rfl, numOff_end hoff hown hgrow⟩
def StrPost (w : World) (l : List UInt8) (e : Ending) (w' : World) : Prop := e = .returned (.string ⟨l.toArray⟩) ∧ Off [] w w'
def textB (s : ByteArray) : List UInt8 := Pl.num s.size ++ s.data.toList
theorem numLen {n : Nat} (h : n < 1099511627776) : (Pl.num n).length ≤ 6 := Pl.num_len 5 n (by omega)
theorem sizeMk (l : List UInt8) : (ByteArray.mk l.toArray).size = l.length := by simp [ByteArray.size]
theorem mk_append (l : List UInt8) (s : ByteArray) : (ByteArray.mk l.toArray) ++ s = ⟨(l ++ s.data.toList).toArray⟩ := by
  apply ByteArray.ext; simp [ByteArray.data_append]
set_option maxRecDepth 100000 in
theorem text_any (s : ByteArray) (w : World) (hs : s.size < 1099511627776) : Calls Tryz.prog 198 #[.string s] w (StrPost w (textB s)) := by
  have hadd : ∀ w1 : World, (Op.stringOp .add ⟨(Pl.num s.size).toArray⟩ s).run Tryz.prog w1 = .ok (.string ⟨(Pl.num s.size ++ s.data.toList).toArray⟩) w1 := fun w1 => by
    rw [run_string_add_sum w1 ⟨(Pl.num s.size).toArray⟩ s (by rw [sizeMk]; have := numLen hs; omega), mk_append]
  go_enter Tryz.func198, Tryz.ntmps198
  go_wp2_with (go_at_call 199; refine (num_any _ _ (by omega)).mono ?_; rintro e w1 ⟨rfl, ho⟩; skip)
  go_ret
  exact ⟨rfl, ho⟩
end
end Go.Proofs.YtoicjadioiomkaaGreatDoor
