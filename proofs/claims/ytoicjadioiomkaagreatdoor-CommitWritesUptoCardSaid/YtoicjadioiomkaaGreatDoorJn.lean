/- Texts of this claim, one behind the other: ArcD Rf3 Rf5 Rf9 Rf9b Rf9c Rf9d Rf20. Conditions: what each lemma states. -/
import Derived.Test.YtoicjadioiomkaaGreatDoorJm
import Derived.Test.YtoicjadioiomkaaGreatDoorJl
import Derived.Test.YtoicjadioiomkaaGreatDoorJe
import Derived.Test.YtoicjadioiomkaaGreatDoorJf
import Derived.Deep.AppendLies
import Derived.Deep.RegionHeld3
import Derived.Deep.QuietTactic
import Derived.BigQuiet
import Derived.Test.YtoicjadioiomkaaGreatDoorJc
import Derived.Laws.StructEq
import Derived.Test.YtoicjadioiomkaaGreatDoorJk
set_option linter.unusedVariables false
set_option linter.unusedSimpArgs false
namespace Go.Proofs.YtoicjadioiomkaaGreatDoor
section
open Go.RowKit Go.Op
set_option maxRecDepth 100000 in
set_option maxHeartbeats 4000000 in
theorem decode_bad (s : ByteArray) (w : World) (hs : s.size < 1099511627776) (h : oneV (str s) = none) :
    Calls Tryz.prog 155 #[.string s] w fun e w' => e = .returned (.tuple #[.agg #[.string ⟨#[]⟩, .int .i64 0, .slice none 0 0, .slice none 0 0], .int .i64 90]) ∧ Off [] w w' := by
  have HX := (fun (W : World) => one_any s W hs); have hne := oneE_none h; obtain ⟨r, hr⟩ : ∃ r, oneE (str s) = r := ⟨_, rfl⟩
  obtain ⟨p, e0⟩ := r; rw [hr] at HX hne; simp only [] at HX hne; have HX := Lib.hid HX; have hb : (e0 == 0) = false := beq_eq_false_iff_ne.2 hne
  have hb2 : (e0 != 0) = true := by rw [bne, hb]; rfl
  clear hr hne h
  go_enter Tryz.func155, Tryz.ntmps155
  go_wp2_with fail
  refine (HX.out _).mono ?_
  rintro e w1 ⟨rfl, ho1⟩; have HB := Lib.hid ((Blk.new w 52 #[.string ⟨#[]⟩, .int .i64 0, .slice none 0 0, .slice none 0 0]).off ho1 (by simp)); have HO := Lib.hid (show Off [] w w1 from ((Off.refl _ _).alloc _).trans_nil ho1); clear ho1 HX
  go_wp2_with fail
  refine (newR_any p _).mono ?_
  rintro e w2 ⟨gR, gB, rfl, hR, ho2, _, _⟩; have HB2 := Lib.hid (HB.out.off ho2 (by simp)); have HO2 := Lib.hid (HO.out.trans_nil ho2); have hc := HB2.out.cell; have hf := HB2.out.frozen; have hl := HB2.out.lt; clear hR ho2
  go_wp2_with fail
  refine bodyPost_ret (v := .tuple #[.agg #[.string ⟨#[]⟩, .int .i64 0, .slice none 0 0, .slice none 0 0], .int .i64 90]) ?_ rfl ⟨rfl, ?_⟩
  · have hres : Tryz.f155.results = #[.cell 2 52, .tmp 3] := rfl
    simp only [results, hres]
    go_simp
  exact (((HO2.out.setCell (.inl (Nat.le_refl _)) _).setCell (.inl (Nat.le_refl _)) _).setCell (.inl (Nat.le_refl _)) _).setCell (.inl (Nat.le_refl _)) _
theorem infoStm : (Tryz.prog.info? 93).map (fun i => (i.zero, i.size, i.bytes)) = some (some (.agg #[.int .i64 0, .int .i64 0, .int .i64 0]), 3, 24) := by kernel_rfl
def stC (l : List (Int × Int × Int)) : List Value := l.flatMap fun s => [.int .i64 s.1, .int .i64 s.2.1, .int .i64 s.2.2]
theorem stC_append (a b : List (Int × Int × Int)) : stC (a ++ b) = stC a ++ stC b := by unfold stC; rw [List.flatMap_append]
theorem own_row3 {W : World} {base : Nat} {v : Value} {t : List (Int × Int × Int)} (h : W.ownsRow base 93 3 v t.length (stC t)) :
    ∃ p cap, v = .slice p t.length cap ∧ SRow3 W p t ∧ t.length ≤ cap ∧ cap ≤ maxLen := by
  rcases h.2 with ⟨rfl, h1⟩ | ⟨g, cap, cur, rfl, hb, hh, hc, hcm, hsz, ht⟩
  · have h2 := List.length_eq_zero_iff.1 h1
    subst h2; exact ⟨none, 0, rfl, fun h => absurd rfl h, Nat.le_refl _, by decide⟩
  refine ⟨some ⟨g, 0, none⟩, cap, rfl, fun _ => ⟨⟨g, 0, none⟩, rfl, (Array.getElem?_eq_some_iff.1 hh).1, fun i n hi => ?_⟩, hc, hcm⟩
  have hil := (List.getElem?_eq_some_iff.1 hi).1; have key : ∀ r : Nat, r < 3 → W.cell? ⟨g, i * 3 + r, none⟩ = (stC t)[i * 3 + r]? := fun r hr => by
    rw [cell_of_row W g _ cur 93 (0, 0) hh, ← ht, List.getElem?_take, if_pos (by omega)]; simp
  have hcell : ∀ (t : List (Int × Int × Int)) (i : Nat) n, t[i]? = some n → ∀ r, r < 3 → (stC t)[i * 3 + r]? = [Value.int .i64 n.1, .int .i64 n.2.1, .int .i64 n.2.2][r]? := fun t => by
    induction t with
    | nil => intro i n h; simp at h
    | cons m t ih =>
      intro i n h r hr
      have e : stC (m :: t) = [Value.int .i64 m.1, .int .i64 m.2.1, .int .i64 m.2.2] ++ stC t := by simp [stC]
      rw [e]
      cases i with
      | zero => simp at h; subst h; rw [Nat.zero_mul, Nat.zero_add, List.getElem?_append_left (by simpa using hr)]
      | succ i =>
        rw [List.getElem?_append_right (by simp; omega)]; have := ih i n (by simpa using h) r hr; rw [← this]
        congr 1
        simp; omega
  rw [addr_add]; exact ⟨(key 0 (by omega)).trans (hcell t i n hi 0 (by omega)), (key 1 (by omega)).trans (hcell t i n hi 1 (by omega)), (key 2 (by omega)).trans (hcell t i n hi 2 (by omega))⟩
def zArc : Array Value := #[.string ⟨#[]⟩, .int .i64 0, .slice none 0 0, .slice none 0 0]
structure DeW (w W : World) (gR gB g7 : Nat) (a : Arc) (i j : Nat) (rest : Str) (tv sv : Value) : Prop where
  off : Off [] w W
  rd : Rdr W gR gB rest
  var : Blk W g7 52 #[.string a.pair, .int .i64 a.serial, tv, sv]
  res : Blk W w.heap.size 52 zArc
  tree : W.ownsRow w.heap.size 30 4 tv i (cellsOf (a.tree.take i))
  stm : W.ownsRow w.heap.size 93 3 sv j (stC (a.stamps.take j))
  lo : w.heap.size ≤ gR ∧ w.heap.size ≤ gB ∧ w.heap.size < g7
section
variable {w W W' : World} {gR gB g7 i j : Nat} {a : Arc} {rest rest' : Str} {tv sv : Value}
theorem DeW.off_ (h : DeW w W gR gB g7 a i j rest tv sv) (ho : Off [] W W') : DeW w W' gR gB g7 a i j rest tv sv :=
  ⟨h.off.trans_nil ho, h.rd.off ho (by simp) (by simp), h.var.off ho (by simp), h.res.off ho (by simp), own_offk h.tree ho (by simp), own_offk h.stm ho (by simp), h.lo⟩
theorem own_neA {t : TypeId} {e sz n b g : Nat} {v : Value} {xs : List Value} {cs : Array Value} (h : W.ownsRow b e sz v n xs) (hB : Blk W g t cs) (ht : e ≠ t) : ∀ x ∈ v.ownBlock.toList, x ∉ [g] := fun x hx hm => by
  obtain ⟨c, hc⟩ := own_blks h x hx; rw [List.mem_singleton] at hm; subst hm; exact hc.ne_ hB ht rfl
theorem DeW.read (h : DeW w W gR gB g7 a i j rest tv sv) {e : Ending} {v : Value} (k : RdrPost W gR gB v rest' e W') : DeW w W' gR gB g7 a i j rest' tv sv := by
  obtain ⟨_, h1, h2⟩ := k; refine ⟨h.off.trans h2 (fun x hx hm => ?_), h1, h.var.off h2 ?_, h.res.off h2 ?_, own_offk h.tree h2 (own_neA h.tree h.rd.b (by decide)), own_offk h.stm h2 (own_neA h.stm h.rd.b (by decide)), h.lo⟩
  · rw [List.mem_singleton] at hm
    have := h.lo; omega
  · rw [List.mem_singleton]; exact h.var.ne_ h.rd.b (by decide)
  rw [List.mem_singleton]; exact h.res.ne_ h.rd.b (by decide)
theorem DeW.push (h : DeW w W gR gB g7 a i j rest tv sv) {n : Node} (hx : a.tree[i]? = some n) {o : Obj} {v' : Value} {w1 : World} (hown : w1.ownsRow w.heap.size 30 4 v' (i + 1) (cellsOf (a.tree.take i) ++ [.string n.path, .int .i64 n.kind, .string n.data, .int .i64 n.mode])) (hg : (W.alloc o).grownBy w1 tv.ownBlock) :
    DeW w (w1.setCell ⟨g7, 2, none⟩ v') gR gB g7 a (i + 1) j rest v' sv := by
  have hA := h.off_ ((Off.refl [] W).alloc o); have hrow : ∀ {g : Nat} {t : TypeId} {cs : Array Value}, Blk (W.alloc o) g t cs → 30 ≠ t → Blk w1 g t cs := fun {g t cs} hB ht => hB.grown hg (fun e => by
    have := own_neA hA.tree hB ht g (by rw [← e]; simp); simp at this)
  have hO : Off [] w w1 := hA.off.grown hg (fun g hg' => .inl (by
    rcases hA.tree.2 with ⟨rfl, _⟩ | ⟨g', cap, cur, rfl, hb, _⟩
    · cases hg'
    cases hg'; exact hb))
  have hv1 := hrow hA.var (by decide); have hr1 := hrow hA.rd.r (by decide); have hb1 := hrow hA.rd.b (by decide); have hs1 : w1.ownsRow w.heap.size 93 3 sv j (stC (a.stamps.take j)) := by
    refine ⟨hA.stm.1, ?_⟩
    rcases hA.stm.2 with hn | ⟨g, cap, cur, k1, k2, k3, k4⟩
    · exact .inl hn
    exact .inr ⟨g, cap, cur, k1, k2, hrow (t := 93) k3 (by decide), k4⟩
  have hset : Off [g7] w1 (w1.setCell ⟨g7, 2, none⟩ v') := (Off.refl _ _).setCell (.inr (by simp)) _
  refine ⟨hO.setCell (.inl (by have := h.lo; show w.heap.size ≤ g7; omega)) _, ⟨hr1.off hset ?_, hb1.off hset ?_⟩, hv1.set_ 2 v', (hrow hA.res (by decide)).off hset ?_, ?_, own_offk hs1 hset (own_neA hs1 hv1 (by decide)), h.lo⟩
  · rw [List.mem_singleton]; exact hr1.ne_ hv1 (by decide)
  · rw [List.mem_singleton]; exact hb1.ne_ hv1 (by decide)
  · rw [List.mem_singleton]; have := h.lo; omega
  rw [List.take_add_one, hx, cellsOf_append]; exact own_offk hown hset (own_neA hown hv1 (by decide))
theorem DeW.pushS (h : DeW w W gR gB g7 a i j rest tv sv) {n : Int × Int × Int} (hx : a.stamps[j]? = some n) {o : Obj} {v' : Value} {w1 : World} (hown : w1.ownsRow w.heap.size 93 3 v' (j + 1) (stC (a.stamps.take j) ++ [.int .i64 n.1, .int .i64 n.2.1, .int .i64 n.2.2])) (hg : (W.alloc o).grownBy w1 sv.ownBlock) :
    DeW w (w1.setCell ⟨g7, 3, none⟩ v') gR gB g7 a i (j + 1) rest tv v' := by
  have hA := h.off_ ((Off.refl [] W).alloc o); have hrow : ∀ {g : Nat} {t : TypeId} {cs : Array Value}, Blk (W.alloc o) g t cs → 93 ≠ t → Blk w1 g t cs := fun {g t cs} hB ht => hB.grown hg (fun e => by
    have := own_neA hA.stm hB ht g (by rw [← e]; simp); simp at this)
  have hO : Off [] w w1 := hA.off.grown hg (fun g hg' => .inl (by
    rcases hA.stm.2 with ⟨rfl, _⟩ | ⟨g', cap, cur, rfl, hb, _⟩
    · cases hg'
    cases hg'; exact hb))
  have hv1 := hrow hA.var (by decide); have hr1 := hrow hA.rd.r (by decide); have hb1 := hrow hA.rd.b (by decide); have hs1 : w1.ownsRow w.heap.size 30 4 tv i (cellsOf (a.tree.take i)) := by
    refine ⟨hA.tree.1, ?_⟩
    rcases hA.tree.2 with hn | ⟨g, cap, cur, k1, k2, k3, k4⟩
    · exact .inl hn
    exact .inr ⟨g, cap, cur, k1, k2, hrow (t := 30) k3 (by decide), k4⟩
  have hset : Off [g7] w1 (w1.setCell ⟨g7, 3, none⟩ v') := (Off.refl _ _).setCell (.inr (by simp)) _
  refine ⟨hO.setCell (.inl (by have := h.lo; show w.heap.size ≤ g7; omega)) _, ⟨hr1.off hset ?_, hb1.off hset ?_⟩, hv1.set_ 3 v', (hrow hA.res (by decide)).off hset ?_, own_offk hs1 hset (own_neA hs1 hv1 (by decide)), ?_, h.lo⟩
  · rw [List.mem_singleton]; exact hr1.ne_ hv1 (by decide)
  · rw [List.mem_singleton]; exact hb1.ne_ hv1 (by decide)
  · rw [List.mem_singleton]; have := h.lo; omega
  rw [List.take_add_one, hx, stC_append]; exact own_offk hown hset (own_neA hown hv1 (by decide))
end
theorem DeW.grownT {w W : World} {gR gB g7 i j : Nat} {a : Arc} {rest : Str} {tv sv : Value} (h : DeW w W gR gB g7 a i j rest tv sv) {o : Obj} {w1 : World} (hg : (W.alloc o).grownBy w1 tv.ownBlock) : Blk w1 g7 52 #[.string a.pair, .int .i64 a.serial, tv, sv] := by
  have hA := h.off_ ((Off.refl [] W).alloc o); exact hA.var.grown hg (fun e => by
    have := own_neA hA.tree hA.var (by decide) g7 (by rw [← e]; simp); simp at this)
theorem DeW.grownS {w W : World} {gR gB g7 i j : Nat} {a : Arc} {rest : Str} {tv sv : Value} (h : DeW w W gR gB g7 a i j rest tv sv) {o : Obj} {w1 : World} (hg : (W.alloc o).grownBy w1 sv.ownBlock) : Blk w1 g7 52 #[.string a.pair, .int .i64 a.serial, tv, sv] := by
  have hA := h.off_ ((Off.refl [] W).alloc o); exact hA.var.grown hg (fun e => by
    have := own_neA hA.stm hA.var (by decide) g7 (by rw [← e]; simp); simp at this)
theorem arc_of_own {W : World} {base : Nat} {a : Arc} {tv sv : Value} (hok : ArcOk a) (ht : W.ownsRow base 30 4 tv a.tree.length (cellsOf a.tree)) (hs : W.ownsRow base 93 3 sv a.stamps.length (stC a.stamps)) :
    ArcAt W (.agg #[.string a.pair, .int .i64 a.serial, tv, sv]) a := by
  obtain ⟨tp, ct, ht1, ht2, ht3, ht4, _⟩ := own_row ht; obtain ⟨sp, cs, hs1, hs2, hs3, hs4⟩ := own_row3 hs; have hcm : ct ≤ maxLen := by
    rcases ht.2 with ⟨h1, _⟩ | ⟨g, cap, cur, h1, _, _, _, h5, _⟩
    · rw [ht1] at h1; simp only [Value.slice.injEq] at h1; rw [h1.2.2]; decide
    rw [ht1] at h1; simp only [Value.slice.injEq] at h1; rw [h1.2.2]; exact h5
  exact ⟨⟨tp, ct, sp, cs, by rw [ht1, hs1], ht2, hs2, ht3, hcm, hs3, hs4, ht4⟩, fun x hx => by have := hok.node x hx; unfold maxLen; omega, by have := hok.len; have := hok.lens; omega, by have := hok.pair; unfold maxLen; omega, by have := hok.ser; omega, fun x hx => by have := hok.stm x hx; omega⟩
theorem nodeB_pos (x : Node × (Int × Int × Int)) : 7 ≤ (nodeB x).length := by
  unfold nodeB txtB numB; simp only [List.length_append]; have e1 := Pl.num_pos x.1.path.size; have e2 := Pl.num_pos x.1.kind.toNat; have e3 := Pl.num_pos x.1.mode.toNat; have e4 := Pl.num_pos x.1.data.size; have e5 := Pl.num_pos x.2.1.toNat; have e6 := Pl.num_pos x.2.2.1.toNat; have e7 := Pl.num_pos x.2.2.2.toNat; omega
theorem itemsB_ge (L : List (Node × (Int × Int × Int))) : L.length * 7 ≤ (itemsB L).length := by
  induction L with
  | nil => simp [itemsB]
  | cons x L ih =>
    have := nodeB_pos x; unfold itemsB at ih ⊢; rw [List.flatMap_cons, List.length_append, List.length_cons]; omega
theorem itemsB_drop_le {a : Arc} (h : ArcOk a) (k : Nat) : (itemsB ((itemsA a).drop k)).length ≤ 530000 := by
  have key : ∀ (L : List (Node × (Int × Int × Int))), (∀ x ∈ L, (nodeB x).length ≤ 530) → (itemsB L).length ≤ L.length * 530 := fun L => by
    induction L with
    | nil => intro _; simp [itemsB]
    | cons x L ih =>
      intro hs
      have h1 := ih (fun t ht => hs t (List.mem_cons_of_mem _ ht)); have h2 := hs x (List.mem_cons_self ..); unfold itemsB at h1 ⊢; rw [List.flatMap_cons, List.length_append, List.length_cons]; omega
  have h1 := key ((itemsA a).drop k) (fun x hx => nodeB_le h (List.mem_of_mem_drop hx)); rw [List.length_drop, itemsA_len h] at h1; have h2 := h.len; have h3 : (a.tree.length - k) * 530 ≤ 1000 * 530 := Nat.mul_le_mul_right _ (by omega)
  omega
theorem encV_one {a : Arc} (h : ArcOk a) : oneE (str (encV a)) = (bodyB a, 0) := by
  have e : str (encV a) = packB (bodyB a) := str_bs _
  rw [e]; exact oneE_some (oneV_pack (by have := bodyB_le h; omega))
theorem encV_size {a : Arc} (h : ArcOk a) : (encV a).size ≤ 531008 := by
  have e : (encV a).size = (packB (bodyB a)).length := bs_size _
  rw [e, packB_len]; have := bodyB_le h; omega
def arcB : Value → List Nat
  | .agg xs => (xs.getD 2 (.bool false)).ownBlock.toList ++ (xs.getD 3 (.bool false)).ownBlock.toList
  | _ => []
theorem own_lo {w : World} {base e sz m : Nat} {v : Value} {xs : List Value} (hr : w.ownsRow base e sz v m xs) : ∀ b ∈ v.ownBlock.toList, base ≤ b := by
  rcases hr.2 with ⟨rfl, _⟩ | ⟨g, cap, cur, rfl, h2, _⟩
  · intro b hb; simp [Value.ownBlock] at hb
  intro b hb
  simp [Value.ownBlock] at hb
  subst hb; exact h2
def DecTo (a : Arc) (w : World) (z : Value) (e : Ending) (w' : World) : Prop := ∃ v, e = .returned (.tuple #[v, z]) ∧ ArcAt w' v a ∧ Off [] w w' ∧ ∀ b ∈ arcB v, w.heap.size ≤ b
set_option maxRecDepth 100000 in
set_option maxHeartbeats 8000000 in
theorem decode_ok (a : Arc) (w : World) (hok : ArcOk a) (hT : Tabs w) :
    Calls Tryz.prog 155 #[.string (encV a)] w (DecTo a w (.int .i64 0)) := by
  have HOK := Lib.hid hok; have HT := Lib.hid hT; have HX := fun (W : World) => one_any (encV a) W (by have := encV_size hok; omega)
  rw [encV_one hok] at HX; simp only [] at HX; have HX := Lib.hid HX; obtain ⟨s, hs⟩ : ∃ s, encV a = s := ⟨_, rfl⟩
  rw [hs] at HX ⊢; clear hs hok hT
  go_enter Tryz.func155, Tryz.ntmps155
  go_wp2_with fail
  refine (HX.out _).mono ?_
  rintro e w1 ⟨rfl, ho1⟩; have HB := Lib.hid ((Blk.new w 52 zArc).off ho1 (by simp)); have HO := Lib.hid (show Off [] w w1 from ((Off.refl _ _).alloc _).trans_nil ho1); obtain ⟨body, hbody⟩ : ∃ body, bodyB a = body := ⟨_, rfl⟩
  rw [hbody]; have HBD := Lib.hid hbody; clear ho1 HX hbody
  go_wp2_with fail
  refine (newR_any body _).mono ?_
  rintro e w2 ⟨gR, gB, rfl, hR, ho2, hg1, hg2⟩; have HB2 := Lib.hid (HB.out.off ho2 (by simp)); have HO2 := Lib.hid (HO.out.trans_nil ho2); have HG := Lib.hid (show w.heap.size ≤ gR ∧ w.heap.size ≤ gB from ⟨Nat.le_trans HO.out.size hg1, Nat.le_trans HO.out.size hg2⟩)
  have HR2 := Lib.hid (show Rdr w2 gR gB (txtB magicB ++ (txtB a.pair ++ (numB a.serial ++ (numB a.tree.length ++ itemsB (itemsA a))))) by
    have h := hR; rw [← HBD.out] at h; exact h)
  have hil := itemsB_drop_le HOK.out 0; rw [List.drop_zero] at hil; have HIL := Lib.hid hil; have e1 := txtB_le a.pair 64 HOK.out.pair.2 (by omega); have e2 := numB_le HOK.out.ser; have e3 := numB_le (n := a.tree.length) (by have := HOK.out.len; omega); have HE := Lib.hid (And.intro e1 (And.intro e2 e3)); clear hR ho2 hg1 hg2 HB HO hil e1 e2 e3
  go_wp2_with fail
  refine (rText gR gB 8 magicB _ _ (by decide) (by omega) (by have := HIL.out; have := HE.out; simp only [List.length_append]; omega) HR2.out).mono ?_
  rintro e w3 ⟨rfl, hR3, ho3⟩; have HR3 := Lib.hid hR3; have HO3 := Lib.hid (HO2.out.trans ho3 (fun x hx hm => by rw [List.mem_singleton] at hm; have := HG.out; omega)); have HB3 := Lib.hid (HB2.out.off ho3 (by rw [List.mem_singleton]; exact HB2.out.ne_ HR2.out.b (by decide))); clear hR3 ho3; unfold magicB
  go_wp2_with fail
  refine (rText gR gB 64 a.pair _ _ HOK.out.pair.2 (by omega) (by have := HIL.out; have := HE.out; simp only [List.length_append]; omega) HR3.out).mono ?_
  rintro e w4 ⟨rfl, hR4, ho4⟩; have HR4 := Lib.hid hR4; have HO4 := Lib.hid (HO3.out.trans ho4 (fun x hx hm => by rw [List.mem_singleton] at hm; have := HG.out; omega)); have HB4 := Lib.hid (HB3.out.off ho4 (by rw [List.mem_singleton]; exact HB3.out.ne_ HR3.out.b (by decide))); clear hR4 ho4
  go_wp2_with fail
  have hsr : ((a.serial.toNat : Nat) : Int) = a.serial := Int.toNat_of_nonneg HOK.out.ser.1
  have HN5 := rNum gR gB a.serial.toNat _ _ (by have := HOK.out.ser; omega) (by have := HIL.out; have := HE.out; simp only [List.length_append]; omega) HR4.out; rw [hsr] at HN5; refine HN5.mono ?_; rintro e w5 ⟨rfl, hR5, ho5⟩; have HR5 := Lib.hid hR5; have HO5 := Lib.hid (HO4.out.trans ho5 (fun x hx hm => by rw [List.mem_singleton] at hm; have := HG.out; omega))
  have HB5 := Lib.hid (HB4.out.off ho5 (by rw [List.mem_singleton]; exact HB4.out.ne_ HR4.out.b (by decide))); clear hR5 ho5 HN5 hsr
  go_upto_region 6 with fail
  refine code_gen (fun W => Hid (DeW w W gR gB w5.heap.size a 0 0 (numB a.tree.length ++ itemsB (itemsA a)) (.slice none 0 0) (.slice none 0 0))) (Lib.hid ⟨HO5.out.alloc _, HR5.out.off ((Off.refl [] _).alloc _) (by simp) (by simp), Blk.new w5 _ _, HB5.out.alloc _, ⟨rfl, .inl ⟨rfl, rfl⟩⟩, ⟨rfl, .inl ⟨rfl, rfl⟩⟩, HG.out.1, HG.out.2, HB5.out.lt⟩) ?_
  rintro W6 H6; obtain ⟨g7, hg7⟩ : ∃ g7, w5.heap.size = g7 := ⟨_, rfl⟩
  rw [hg7] at H6; rw [hg7]; clear hg7 HR5 HR4 HR3 HR2 HB5 HB4 HB3 HB2 HO5 HO4 HO3 HO2
  go_wp2_with fail
  have hge := itemsB_ge (itemsA a); rw [itemsA_len HOK.out] at hge; refine (rCount gR gB 1000 a.tree.length (itemsB (itemsA a)) _ HOK.out.len (by omega) hge (by have := HIL.out; omega) H6.out.rd).mono ?_; rintro e w7 ⟨rfl, hR7, ho7⟩; have H7 := Lib.hid (H6.out.read ⟨rfl, hR7, ho7⟩ (e := .returned (.int .i64 a.tree.length)) (v := .int .i64 a.tree.length))
  obtain ⟨n, hn⟩ : ∃ n, a.tree.length = n := ⟨_, rfl⟩
  have hnb : n ≤ 1000 := by have := HOK.out.len; omega
  have HN := Lib.hid hn; rw [hn]; clear hR7 ho7 hge hn H6
  go_wp2_with fail
  go_loopw [31] (fun x wr => ∃ i : Nat, x = .int .i64 i ∧ i ≤ n ∧ ∃ tv sv, Hid (DeW w wr gR gB g7 a i i (itemsB ((itemsA a).drop i)) tv sv)) (fun x _ => n - (intOf x).toNat)
  case atStart => exact ⟨0, rfl, by omega, _, _, H7⟩
  case round =>
    clear H7; obtain ⟨i, rfl, hi, tv, sv, HD⟩ := hrel
    by_cases hlt : i < n
    · have hil : i < a.tree.length := by rw [HN.out]; exact hlt
      have hjl : i < a.stamps.length := by rw [HOK.out.lens, HN.out]; exact hlt
      have hx := List.getElem?_eq_getElem hil; have hy := List.getElem?_eq_getElem hjl; have hnd := HOK.out.node _ (List.getElem_mem hil); have hst := HOK.out.stm _ (List.getElem_mem hjl); have hR := itemsB_drop_le HOK.out (i + 1); have hdr : itemsB ((itemsA a).drop i) = nodeB (a.tree[i], a.stamps[i]) ++ itemsB ((itemsA a).drop (i + 1)) := by
        have e : i < (itemsA a).length := by rw [itemsA_len HOK.out]; exact hil
        have e3 : (itemsA a)[i]? = some (a.tree[i], a.stamps[i]) := by unfold itemsA; rw [List.getElem?_zip_eq_some]; exact ⟨hx, hy⟩
        have e2 : (itemsA a)[i] = (a.tree[i], a.stamps[i]) := (List.getElem?_eq_some_iff.1 e3).2
        rw [List.drop_eq_getElem_cons e, e2]; unfold itemsB; rw [List.flatMap_cons]
      rw [hdr] at HD; have HXY := Lib.hid (And.intro hx hy); generalize a.tree[i] = x at hnd HD HXY; generalize a.stamps[i] = s at hst HD HXY; obtain ⟨s1, s2, s3⟩ := s; obtain ⟨R, hRR⟩ : ∃ R, itemsB ((itemsA a).drop (i + 1)) = R := ⟨_, rfl⟩
      rw [hRR] at HD hR; have HRR := Lib.hid hRR; have HD := Lib.hid (show DeW w wr gR gB g7 a i i (txtB x.path ++ (numB x.kind ++ (numB x.mode ++ (txtB x.data ++ (numB s1 ++ (numB s2 ++ (numB s3 ++ R))))))) tv sv by
        have h := HD.out; unfold nodeB at h
        simpa only [List.append_assoc] using h)
      have hltI : (i : Int) < (n : Int) := by omega
      have ex2 := txtB_le x.data 64 hnd.2.1 (by omega); have ex3 := numB_le (n := x.kind) (by have := hnd.2.2.1; omega); have ex4 := numB_le (n := x.mode) (by have := hnd.2.2.2; omega); have ex5 := numB_le hst.1; have ex6 := numB_le hst.2.1; have ex7 := numB_le hst.2.2; have HL := Lib.hid (And.intro hR (And.intro ex2 (And.intro ex3 (And.intro ex4 (And.intro ex5 (And.intro ex6 ex7))))))
      have HND := Lib.hid (And.intro hnd hst); have hkk : ((x.kind.toNat : Nat) : Int) = x.kind := Int.toNat_of_nonneg hnd.2.2.1.1
      have hmm : ((x.mode.toNat : Nat) : Int) = x.mode := Int.toNat_of_nonneg hnd.2.2.2.1
      have HKM := Lib.hid (And.intro hkk hmm); have HSS := Lib.hid (show ((s1.toNat : Nat) : Int) = s1 ∧ ((s2.toNat : Nat) : Int) = s2 ∧ ((s3.toNat : Nat) : Int) = s3 from ⟨Int.toNat_of_nonneg hst.1.1, Int.toNat_of_nonneg hst.2.1.1, Int.toNat_of_nonneg hst.2.2.1⟩); clear hx hy hil hjl hnd hst hR hdr hRR ex2 ex3 ex4 ex5 ex6 ex7 hkk hmm
      go_wp2_with fail
      refine (rText gR gB 400 x.path _ _ HND.out.1.1 (by omega) (by have := HL.out; (try simp only [List.length_append]); omega) HD.out.rd).mono ?_
      rintro e w8 hp; have HD8 := Lib.hid (HD.out.read hp); obtain ⟨rfl, -, -⟩ := hp
      go_wp2_with fail
      have HN9 := rNum gR gB x.kind.toNat _ _ (by have := HND.out.1.2.2.1; omega) (by have := HL.out; (try simp only [List.length_append]); omega) HD8.out.rd; rw [HKM.out.1] at HN9; refine HN9.mono ?_; rintro e w9 hp; have HD9 := Lib.hid (HD8.out.read hp); obtain ⟨rfl, -, -⟩ := hp; clear HN9
      go_wp2_with fail
      have HN9 := rNum gR gB x.mode.toNat _ _ (by have := HND.out.1.2.2.2; omega) (by have := HL.out; (try simp only [List.length_append]); omega) HD9.out.rd; rw [HKM.out.2] at HN9; refine HN9.mono ?_; rintro e w10 hp; have HD10 := Lib.hid (HD9.out.read hp); obtain ⟨rfl, -, -⟩ := hp; clear HN9
      go_wp2_with fail
      refine (rText gR gB 64 x.data _ _ HND.out.1.2.1 (by omega) (by have := HL.out; (try simp only [List.length_append]); omega) HD10.out.rd).mono ?_
      rintro e w11 hp; have HD11 := Lib.hid (HD10.out.read hp); obtain ⟨rfl, -, -⟩ := hp
      go_upto_region 9 with fail
      refine code_gen (fun W => Hid (DeW w W gR gB g7 a i i (numB s1 ++ (numB s2 ++ (numB s3 ++ R))) tv sv ∧ Blk W w11.heap.size 30 #[.string x.path, .int .i64 x.kind, .string x.data, .int .i64 x.mode])) (Lib.hid ⟨HD11.out.off_ ((Off.refl _ _).alloc _), Blk.new w11 _ _⟩) ?_
      rintro W9 H9; obtain ⟨gn, hgn⟩ : ∃ gn, w11.heap.size = gn := ⟨_, rfl⟩
      rw [hgn] at H9; rw [hgn]; clear hgn HD8 HD9 HD10 HD11 HD; obtain ⟨i0, hi0, hz0, hz1, hz2⟩ := info_parts infoNode; have n9 := H9.out.2.cell; have m9 := H9.out.2.lt; have v9 := H9.out.1.var.cell; have u9 := H9.out.1.var.lt
      have HW9 := Lib.hid (own_offk (k := []) H9.out.1.tree ((Off.refl [] W9).alloc (.cells #[.string x.path, .int .i64 x.kind, .string x.data, .int .i64 x.mode] 30)) (by simp))
      go_wp2_with (at_builtin; refine wpList_append_own _ rfl _ _ 22 rfl w.heap.size 30 i0 _ 4 48 Tryz.underlying22 hi0 hz0 hz1 hz2 rfl (by decide) _ i _ rfl HW9.out ⟨W9.heap.size, 0, none⟩ 1 1 [_, _, _, _] rfl rfl (nd_four_at (Blk.new W9 _ _)) (by simp [Value.oneCell']) (by unfold maxLen; omega) (by omega) (by have := H9.out.1.off.size; simp; omega) ?_; intro tv' w12 hown12 hgrow12 _; obtain ⟨gv, cv, rfl⟩ := ownsRow_succ (k := i) hown12; have hv12 := H9.out.1.grownT hgrow12; have hc12 := hv12.cell; have hf12 := hv12.frozen; have hl12 := hv12.lt)
      have hgw := (by assumption : (W9.alloc (.cells #[.string x.path, .int .i64 x.kind, .string x.data, .int .i64 x.mode] 30)).grownBy _ _); have how := (by assumption : World.ownsRow _ w.heap.size 30 4 _ (i + 1) _); have HP := Lib.hid (H9.out.1.push HXY.out.1 how hgw)
      go_upto_region 10 with fail
      refine code_gen (fun W => Hid (DeW w W gR gB g7 a (i + 1) i (numB s1 ++ (numB s2 ++ (numB s3 ++ R))) (.slice (some ⟨gv, 0, none⟩) (i + 1) cv) sv)) HP ?_
      clear n9 m9 v9 u9 HW9 hv12 hc12 hf12 hl12 hgw how HP H9; rintro W10 H10; have HS := Lib.hid (show ∀ W' r, DeW w W' gR gB g7 a (i + 1) i r (.slice (some ⟨gv, 0, none⟩) (i + 1) cv) sv → W'.cell? ⟨g7, 3, none⟩ = some sv from fun W' r h => h.var.cell 3); obtain ⟨j0, hj0, hq0, hq1, hq2⟩ := info_parts infoStm
      refine wp_region_but_last 12 [0, 1, 2, 4, 6] [3, 5, 7, 8, 9, 10, 11, 12] (fun w' => w'.cell? ⟨g7, 3, none⟩ = some sv) (by kernel_rfl) (by kernel_rfl) (by intro d v c a w h; cases d <;> exact h) (HS.out _ _ (H10.out.off_ (Off.refl [] _).drew)) ?_
      iterate 5 (refine takesZ_step (v := ?_) rfl (by rfl) ?_ ?_; rotate_left 1; (· (rintro w s0; go_simp <;> with_reducible rfl)); try simp only [Act.put, List.setIfInBounds_toArray])
      refine takesZ_nil ?_
      have H20 := Lib.hid (H10.out.off_ (Off.refl [] W10).drew); refine runZ_step rfl (fun K1 hK1 => ?_)
      go_simp
      have HN1 := rNum gR gB s1.toNat _ W10.drew (by have := HND.out.2; omega) (by have := HL.out; (try simp only [List.length_append]); omega) H20.out.rd; rw [HSS.out.1] at HN1; refine HN1.mono ?_; rintro e w21 hp; have H21 := Lib.hid (H20.out.read hp); obtain ⟨rfl, -, -⟩ := hp; clear HN1; refine hK1.out _ _ (.inr (HS.out _ _ H21.out)) ?_
      try simp only [Act.put, List.setIfInBounds_toArray, List.set_cons_zero, List.set_cons_succ]
      refine runZ_step rfl (fun K2 hK2 => ?_)
      go_simp
      have HN2 := rNum gR gB s2.toNat _ w21 (by have := HND.out.2; omega) (by have := HL.out; (try simp only [List.length_append]); omega) H21.out.rd; rw [HSS.out.2.1] at HN2; refine HN2.mono ?_; rintro e w22 hp; have H22 := Lib.hid (H21.out.read hp); obtain ⟨rfl, -, -⟩ := hp; clear HN2; refine hK2.out _ _ (.inr (HS.out _ _ H22.out)) ?_
      try simp only [Act.put, List.setIfInBounds_toArray, List.set_cons_zero, List.set_cons_succ]
      refine runZ_step rfl (fun K3 hK3 => ?_)
      go_simp
      have HN3 := rNum gR gB s3.toNat _ w22 (by have := HND.out.2; omega) (by have := HL.out; (try simp only [List.length_append]); omega) H22.out.rd; rw [HSS.out.2.2] at HN3; refine HN3.mono ?_; rintro e w23 hp; have H23 := Lib.hid (H22.out.read hp); obtain ⟨rfl, -, -⟩ := hp; clear HN3; refine hK3.out _ _ (.inr (HS.out _ _ H23.out)) ?_
      try simp only [Act.put, List.setIfInBounds_toArray, List.set_cons_zero, List.set_cons_succ]
      refine runZ_step rfl (fun K4 hK4 => ?_)
      go_simp
      refine hK4.out _ _ (.inr (HS.out _ _ H23.out)) ?_
      try simp only [Act.put, List.setIfInBounds_toArray, List.set_cons_zero, List.set_cons_succ]
      refine runZ_step rfl (fun K5 hK5 => ?_)
      go_simp
      have hoA := (Off.refl [] w23).alloc (.cells #[.int .i64 s1, .int .i64 s2, .int .i64 s3] 93); have H25 := Lib.hid (H23.out.off_ hoA); refine hK5.out _ _ (.inr (HS.out _ _ H25.out)) ?_
      try simp only [Act.put, List.setIfInBounds_toArray, List.set_cons_zero, List.set_cons_succ]
      refine runZ_step rfl (fun K6 hK6 => ?_)
      refine step_append_lies _ (by rfl) _ _ _ (by rfl) w.heap.size 93 j0 _ 3 24 Tryz.underlying31 hj0 hq0 hq1 hq2 rfl (by decide) _ i _ (by rfl) H25.out.stm ⟨w23.heap.size, 0, none⟩ 1 1 [_, _, _] (by rfl) (by rfl) (cell_three_at (Blk.new w23 _ _)) (by simp [Value.oneCell']) (by omega) (by unfold maxLen; omega) (by omega) (by have := H25.out.off.size; exact this) _ rfl ?_
      intro gg cap w26 hown26 hgrow26 hat26 hlt26
      have hv26 := H23.out.grownS hgrow26; have hc26 := hv26.cell; have hf26 := hv26.frozen; have hl26 := hv26.lt; have HP2 := Lib.hid (H23.out.pushS HXY.out.2 hown26 hgrow26); refine hK6.out _ _ (.inr (hv26.cell 3)) ?_
      try simp only [Act.put, List.setIfInBounds_toArray, List.set_cons_zero, List.set_cons_succ]
      refine runZ_step rfl (fun K7 hK7 => ?_)
      go_simp
      refine hK7.out _ _ (.inr (hv26.cell 3)) ?_
      try simp only [Act.put, List.setIfInBounds_toArray, List.set_cons_zero, List.set_cons_succ]
      refine runZ_step rfl (fun K8 hK8 => ?_)
      go_simp
      refine hK8.out _ _ (.inl rfl) (runZ_nil ?_)
      clear hK1 K1 hK2 K2 hK3 K3 hK4 K4 hK5 K5 hK6 K6 hK7 K7 hK8 K8
      go_wp2_with fail
      have hfin := HP2.out; rw [← HRR.out] at hfin; exact ⟨⟨i + 1, by congr 1, by omega, _, _, Lib.hid hfin⟩, by (try simp only [intOf]); omega⟩
    obtain rfl : i = n := by omega
    have hdn : itemsB ((itemsA a).drop i) = [] := by rw [List.drop_of_length_le (by rw [itemsA_len HOK.out, HN.out]; exact Nat.le_refl _)]; rfl
    rw [hdn] at HD; have htr := HD.out.tree; have hsr := HD.out.stm; rw [List.take_of_length_le (by rw [HN.out]; exact Nat.le_refl _)] at htr; rw [List.take_of_length_le (by rw [HOK.out.lens, HN.out]; exact Nat.le_refl _)] at hsr; have e1 := HN.out; have e2 := HOK.out.lens; obtain ⟨tp, ct, ht1, ht2, ht3, ht4, _⟩ := own_row (t := a.tree) (by rw [e1]; exact htr)
    obtain ⟨sp, cs, hs1, hs2, hs3, hs4⟩ := own_row3 (t := a.stamps) (by rw [e2, e1]; exact hsr); have hcm : ct ≤ maxLen := by
      rcases htr.2 with ⟨h1, _⟩ | ⟨g, cap, cur, h1, _, _, _, h5, _⟩
      · rw [ht1] at h1; simp only [Value.slice.injEq] at h1; rw [h1.2.2]; decide
      rw [ht1] at h1; simp only [Value.slice.injEq] at h1; rw [h1.2.2]; exact h5
    have HD2 := Lib.hid (show DeW w wr gR gB g7 a i i [] (.slice tp a.tree.length ct) (.slice sp a.stamps.length cs) by rw [← ht1, ← hs1]; exact HD.out); have HARC := Lib.hid (show ∀ W, Off [] wr W → ArcAt W (.agg #[.string a.pair, .int .i64 a.serial, .slice tp a.tree.length ct, .slice sp a.stamps.length cs]) a from fun W ho =>
      ⟨⟨tp, ct, sp, cs, rfl, ht2.off ho, hs2.off ho, ht3, hcm, hs3, hs4, ht4⟩, fun x hx => by have := HOK.out.node x hx; unfold maxLen; omega, by have := HOK.out.len; have := HOK.out.lens; omega, by have := HOK.out.pair; unfold maxLen; omega, by have := HOK.out.ser; omega, fun x hx => by have := HOK.out.stm x hx; omega⟩)
    clear ht1 ht2 ht3 ht4 hs1 hs2 hs3 hs4 hcm htr hsr hdn HD e1 e2
    go_wp2_with fail
    refine (rEnd gR gB _ HD2.out.rd).mono ?_
    rintro e w30 ⟨rfl, rfl⟩; have hv := HD2.out.var.cell; have hl := HD2.out.var.lt
    go_wp2_with fail
    refine (acheck_any _ a _ (HARC.out _ (Off.refl _ _)) (HT.out.off HD2.out.off) 0 (by unfold chkA; rw [HOK.out.ok]; rfl)).mono ?_
    rintro e w31 ⟨rfl, ho31⟩; have HD3 := Lib.hid (HD2.out.off_ ho31); have HA3 := Lib.hid (HARC.out _ ho31); clear hv hl ho31; have hv := HD3.out.var.cell; have hl := HD3.out.var.lt; have hr := HD3.out.res.cell; have hrf := HD3.out.res.frozen; have hrl := HD3.out.res.lt; unfold zArc at hr
    go_wp2_with fail
    have hB := (((HD3.out.res.set_ 0 (.string a.pair)).set_ 1 (.int .i64 a.serial)).set_ 2 (.slice tp a.tree.length ct)).set_ 3 (.slice sp a.stamps.length cs); unfold zArc at hB; simp only [List.setIfInBounds_toArray, List.set_cons_zero, List.set_cons_succ] at hB
    have hO : Off [] w ((((w31.setCell ⟨w.heap.size, 0, none⟩ (.string a.pair)).setCell ⟨w.heap.size, 1, none⟩ (.int .i64 a.serial)).setCell ⟨w.heap.size, 2, none⟩ (.slice tp a.tree.length ct)).setCell ⟨w.heap.size, 3, none⟩ (.slice sp a.stamps.length cs)) :=
      (((HD3.out.off.setCell (.inl (Nat.le_refl _)) _).setCell (.inl (Nat.le_refl _)) _).setCell (.inl (Nat.le_refl _)) _).setCell (.inl (Nat.le_refl _)) _
    have HO := Lib.hid hO
    have HAF := Lib.hid (show ArcAt ((((w31.setCell ⟨w.heap.size, 0, none⟩ (.string a.pair)).setCell ⟨w.heap.size, 1, none⟩ (.int .i64 a.serial)).setCell ⟨w.heap.size, 2, none⟩ (.slice tp a.tree.length ct)).setCell ⟨w.heap.size, 3, none⟩ (.slice sp a.stamps.length cs)) (.agg #[.string a.pair, .int .i64 a.serial, .slice tp a.tree.length ct, .slice sp a.stamps.length cs]) a by
      have ho : Off [w.heap.size] w31 ((((w31.setCell ⟨w.heap.size, 0, none⟩ (.string a.pair)).setCell ⟨w.heap.size, 1, none⟩ (.int .i64 a.serial)).setCell ⟨w.heap.size, 2, none⟩ (.slice tp a.tree.length ct)).setCell ⟨w.heap.size, 3, none⟩ (.slice sp a.stamps.length cs)) :=
        ((((Off.refl _ _).setCell (.inr (by simp)) _).setCell (.inr (by simp)) _).setCell (.inr (by simp)) _).setCell (.inr (by simp)) _
      have t1 := own_offk HD3.out.tree ho (own_neA HD3.out.tree HD3.out.res (by decide)); have t2 := own_offk HD3.out.stm ho (own_neA HD3.out.stm HD3.out.res (by decide)); have e1 := HN.out; have e2 := HOK.out.lens; rw [List.take_of_length_le (by rw [e1]; exact Nat.le_refl _)] at t1; rw [List.take_of_length_le (by rw [e2, e1]; exact Nat.le_refl _)] at t2
      exact arc_of_own HOK.out (by rw [e1] at t1 ⊢; exact t1) (by rw [e2, e1]; rw [e1, e2, e1] at t2; exact t2))
    have HFR := Lib.hid (show ∀ b ∈ arcB (.agg #[.string a.pair, .int .i64 a.serial, .slice tp a.tree.length ct, .slice sp a.stamps.length cs]), w.heap.size ≤ b from fun b hb => by
      rcases List.mem_append.1 hb with hb | hb
      · exact own_lo HD3.out.tree b hb
      exact own_lo HD3.out.stm b hb)
    clear hv hl hr hrf hrl hO; have hc := hB.cell; have hl := hB.lt; generalize (((w31.setCell ⟨w.heap.size, 0, none⟩ (.string a.pair)).setCell ⟨w.heap.size, 1, none⟩ (.int .i64 a.serial)).setCell ⟨w.heap.size, 2, none⟩ (.slice tp a.tree.length ct)).setCell ⟨w.heap.size, 3, none⟩ (.slice sp a.stamps.length cs) = W32 at hB hc hl HO HAF
    refine bodyPost_ret (v := .tuple #[.agg #[.string a.pair, .int .i64 a.serial, .slice tp a.tree.length ct, .slice sp a.stamps.length cs], .int .i64 0]) ?_ rfl ⟨_, rfl, HAF.out, HO.out, HFR.out⟩
    have hres : Tryz.f155.results = #[.cell 2 52, .tmp 3] := rfl
    simp only [results, hres]
    go_simp
end
section
open Go.RowKit Go.Op
set_option maxRecDepth 100000 in
set_option maxHeartbeats 4000000 in
theorem rnumber3_any (s : ByteArray) (at_ n : Nat) (r : Str) (w : World) (hn : n < 9223372036854775808) (hs : (str s).drop at_ = Pl.num n ++ r) (hs2 : s.size < 1099511627776) :
    Calls Tryz.prog 253 #[.string s, .int .i64 at_] w fun e w' => e = .returned (.tuple #[.int .i64 n, .int .i64 ((at_ + (Pl.num n).length : Nat) : Int), .int .i64 0]) ∧ w = w' := by
  have HS := Lib.hid hs; have HN := Lib.hid hn; have hat : at_ < s.size := by
    have h := congrArg List.length hs; have := Pl.num_pos n; rw [List.length_drop, List.length_append, str_size] at h; omega
  clear hs hn
  go_enter Tryz.func253, Tryz.ntmps253
  go_wp2_with fail
  go_loop [7, 8, 9] (fun a u x => ∃ k q acc : Nat, x = .int .i64 k ∧ a = .int .i64 acc ∧ u = .int .i64 ((128 ^ k : Nat) : Int) ∧ k ≤ 8 ∧ at_ + k < s.size ∧ Hid (Pl.Mid n k q acc ∧ (str s).drop (at_ + k) = Pl.num q ++ r ∧ (Pl.num n).length = k + (Pl.num q).length)) (fun _ _ x => 9 - (intOf x).toNat)
  case atStart =>
    exact ⟨0, n, 0, rfl, rfl, rfl, by omega, hat, Lib.hid ⟨Pl.Mid.start n, HS.out, by omega⟩⟩
  case round =>
    obtain ⟨k, q, acc, rfl, rfl, rfl, hk8, hks, HM⟩ := hrel; have hk9 : ((k : Int) == 9) = false := beq_eq_false_iff_ne.2 (by omega)
    have hw1 : IntKind.i64.wrap ((at_ : Int) + (k : Int)) = (at_ : Int) + (k : Int) := IntWalk.i64_in _ (by omega)
    have hge : ¬ (s.size : Int) ≤ (at_ : Int) + (k : Int) := by omega
    have htn : ((at_ : Int) + (k : Int)).toNat = at_ + k := by omega
    obtain ⟨c, t, hct⟩ : ∃ c t, Pl.num q ++ r = c :: t := by
      cases h : Pl.num q ++ r with
      | nil => have := Pl.num_pos q; rw [List.append_eq_nil_iff] at h; rw [h.1] at this; simp at this
      | cons c t => exact ⟨c, t, rfl⟩
    obtain ⟨hlt, hce, hdr⟩ := drop_head (HM.out.2.1.trans hct); have hci : s[at_ + k]'hks = c := hce
    obtain ⟨U, hU⟩ : ∃ U, 128 ^ k = U := ⟨_, rfl⟩
    have hUb : U ≤ 72057594037927936 := by
      rw [← hU]; have h8 : (128 : Nat) ^ k ≤ 128 ^ 8 := Nat.pow_le_pow_right (by omega) hk8
      have h9 : (128 : Nat) ^ 8 = 72057594037927936 := by decide
      omega
    have hcl := c.toNat_lt; have hmb : c.toNat % 128 * U ≤ 127 * U := Nat.mul_le_mul_right _ (by omega)
    have hac : acc < U := by rw [← hU]; exact HM.out.1.lo
    have hfin : wrap64 ((acc : Int) + wrap64 ((c.toNat : Int) % 128 * (U : Int))) = ((acc + c.toNat % 128 * U : Nat) : Int) := by
      have e1 : (c.toNat : Int) % 128 * (U : Int) = ((c.toNat % 128 * U : Nat) : Int) := by push_cast; rfl
      rw [e1]; generalize c.toNat % 128 * U = z at hmb; rw [IntWalk.wrap64_in (z : Int) (by omega), IntWalk.wrap64_in _ (by omega)]; omega
    have HF := Lib.hid hfin; have hb1 : (c.toNat : Int) % 128 = (c.toNat : Int) % 128 := rfl
    rw [hU]
    by_cases hk : q < 128
    · have hc2 : c = UInt8.ofNat q ∧ t = r := by
        rw [Pl.num_small hk] at hct; injection hct with h1 h2
        exact ⟨h1.symm, h2.symm⟩
      have hcn : c.toNat = q := by rw [hc2.1]; simp; omega
      have hlen : (Pl.num n).length = k + 1 := by rw [HM.out.2.2, Pl.num_small hk]; rfl
      have hsum : acc + c.toNat % 128 * U = n := by rw [hcn, Nat.mod_eq_of_lt hk, ← hU]; exact HM.out.1.sum.symm
      have HE := Lib.hid (And.intro hlen hsum); have hc8 : (c.toNat : Int) < 128 := by omega
      by_cases hz : q = 0
      · have hk0 : k = 0 := by
          rcases Nat.eq_zero_or_pos k with h | h
          · exact h
          have := HM.out.1.pos h; omega
        have hcz : c.toNat = 0 := by omega
        have hn0 : acc = n := by rw [hcz, Nat.zero_mod, Nat.zero_mul] at hsum; exact hsum
        have hU1 : U = 1 := by rw [← hU, hk0]; try rfl
        have hl1 : (Pl.num n).length = 1 := by omega
        have HL1 := Lib.hid hl1; clear hfin hc2 hcn hlen hsum hct hlt hce hdr hmb hac HM HF HE hU hz hk hl1; subst hk0; subst hn0; subst hU1; have hci0 : s[at_]'hat = c := hci
        have hcz2 : (c.toNat : Int) = 0 := by omega
        have hge0 : ¬ (s.size : Int) ≤ (at_ : Int) := by omega
        have hw0 : IntKind.i64.wrap (at_ : Int) = (at_ : Int) := IntWalk.i64_in _ (by omega)
        have hnb : wrap64 (acc : Int) = acc := IntWalk.wrap64_in _ (by have := HN.out; omega)
        clear hci hge hw1 htn
        go_wp2_with fail
        go_ret3
        refine ⟨?_, rfl⟩
        rw [HL1.out]
        rfl
      have hcz : ((c.toNat : Int) == 0) = false := beq_eq_false_iff_ne.2 (by omega)
      clear hfin hc2 hcn hlen hsum hct hlt hce hdr hmb hac HM hU hz hk
      go_wp2_with fail
      go_ret3
      refine ⟨?_, rfl⟩
      show Ending.returned (.tuple #[.int .i64 (wrap64 ((acc : Int) + wrap64 ((c.toNat : Int) % 128 * (U : Int)))), .int .i64 ((at_ : Int) + (k : Int) + 1), .int .i64 0]) = _
      rw [HF.out, HE.out.2, HE.out.1]; rw [show ((at_ : Int) + (k : Int) + 1) = ((at_ : Int) + ((k + 1 : Nat) : Int)) by omega]
      try rfl
    have hc2 : c = UInt8.ofNat (128 + q % 128) ∧ t = Pl.num (q / 128) ++ r := by
      rw [Pl.num_big (by omega)] at hct; injection hct with h1 h2
      exact ⟨h1.symm, h2.symm⟩
    have hcn : c.toNat = 128 + q % 128 := by rw [hc2.1]; simp; omega
    have HM2 := Lib.hid (And.intro (HM.out.1.next (by omega)) (And.intro (hdr.trans hc2.2) (show (Pl.num n).length = k + 1 + (Pl.num (q / 128)).length by rw [HM.out.2.2, Pl.num_big (by omega)]; simp; omega))); have hil := HM2.out.1.lt HN.out; have hls : at_ + k + 1 < s.size := by
      have h1 := congrArg List.length HM2.out.2.1; have h2 := Pl.num_pos (q / 128); rw [List.length_drop, List.length_append, str_size] at h1; omega
    have hc8 : ¬ (c.toNat : Int) < 128 := by omega
    have hUb2 : U ≤ 562949953421312 := by
      rw [← hU]; have h8 : (128 : Nat) ^ k ≤ 128 ^ 7 := Nat.pow_le_pow_right (by omega) (by omega)
      have h9 : (128 : Nat) ^ 7 = 562949953421312 := by decide
      omega
    have hUm : wrap64 ((U : Int) * 128) = (U : Int) * 128 := IntWalk.wrap64_in _ (by omega)
    have hacc : acc + c.toNat % 128 * U = acc + q % 128 * 128 ^ k := by rw [hcn, hU]; congr 2; omega
    have HA := Lib.hid hacc; have HU := Lib.hid (show 128 ^ (k + 1) = U * 128 by rw [Nat.pow_succ, hU]); clear hfin hc2 hcn hct hlt hce hdr hmb hac HM hU hk hacc
    go_wp2_with fail
    exact ⟨⟨k + 1, q / 128, acc + q % 128 * 128 ^ k, by congr 1, by rw [HF.out, HA.out], by rw [HU.out]; first | rfl | (rw [hUm]; rfl) | (congr 1; push_cast; exact hUm), by omega, hls, HM2⟩, by (try simp only [intOf]); omega⟩
structure Rd3 (w : World) (g : Nat) (s : ByteArray) (at_ : Nat) : Prop where
  b : Blk w g 262 #[.string s, .int .i64 at_, .int .i64 0]
def Rd3Post (w : World) (g : Nat) (v : Value) (s : ByteArray) (at_ : Nat) (e : Ending) (w' : World) : Prop := e = .returned v ∧ Rd3 w' g s at_ ∧ Off [g] w w'
theorem drop_num {s : ByteArray} {at_ n : Nat} {r : Str} (h : (str s).drop at_ = Pl.num n ++ r) : (str s).drop (at_ + (Pl.num n).length) = r ∧ at_ + (Pl.num n).length + r.length = s.size := by
  refine ⟨?_, ?_⟩
  · rw [← List.drop_drop, h, List.drop_left]
  have h1 := congrArg List.length h; have := Pl.num_pos n; rw [List.length_drop, List.length_append, str_size] at h1; omega
set_option maxRecDepth 100000 in
theorem rf3Num (g at_ n : Nat) (s : ByteArray) (r : Str) (w : World) (h : Rd3 w g s at_) (hn : n < 9223372036854775808) (hs : (str s).drop at_ = Pl.num n ++ r) (hs2 : s.size < 1099511627776) :
    Calls Tryz.prog 204 #[.pointer (some ⟨g, 0, none⟩)] w (Rd3Post w g (.int .i64 n) s (at_ + (Pl.num n).length)) := by
  have H := Lib.hid h; have HN := Lib.hid (fun (W : World) => rnumber3_any s at_ n r W hn hs hs2); obtain ⟨nx, hnx⟩ : ∃ nx, at_ + (Pl.num n).length = nx := ⟨_, rfl⟩
  rw [hnx] at HN ⊢; have c0 : w.cell? ⟨g, 0, none⟩ = some (.string s) := h.b.cell 0
  have c1 : w.cell? ⟨g, 1, none⟩ = some (.int .i64 at_) := h.b.cell 1
  have c2 : w.cell? ⟨g, 2, none⟩ = some (.int .i64 0) := h.b.cell 2
  have hf := h.b.frozen; have hl := h.b.lt; clear h hs hnx
  go_enter Tryz.func204, Tryz.ntmps204
  go_upto_region 3 with fail
  go_region_held3 (fun W => W.cell? ⟨g, 0, none⟩ = some (.string s) ∧ W.cell? ⟨g, 1, none⟩ = some (.int .i64 at_)) (exact ⟨c0, c1⟩) (first
    | (go_at_call 253; refine (HN.out _).mono ?_; rintro e w2 ⟨rfl, rfl⟩))
  go_wp2_with fail
  go_ret
  exact ⟨rfl, ⟨H.out.b.drew.set_ 1 _⟩, ((Off.refl [g] w).drew).setCell (.inr (by simp)) _⟩
theorem drop_txt {s : ByteArray} {at_ : Nat} {x : ByteArray} {r : Str} (h : (str s).drop at_ = txtB x ++ r) : (str s).drop (at_ + (txtB x).length) = r ∧ at_ + (txtB x).length + r.length = s.size ∧ (str s).drop at_ = Pl.num x.size ++ (str x ++ r) ∧ s.extract (at_ + (Pl.num x.size).length) (at_ + (Pl.num x.size).length + x.size) = x := by
  have h' : (str s).drop at_ = Pl.num x.size ++ (str x ++ r) := by rw [h]; unfold txtB; rw [List.append_assoc]
  obtain ⟨h1, h2⟩ := drop_num h'; refine ⟨?_, ?_, h', ?_⟩
  · rw [← List.drop_drop, h, List.drop_left]
  · unfold txtB
    rw [List.length_append] at h2 ⊢; omega
  apply str_inj
  rw [str_extract, h1, show at_ + (Pl.num x.size).length + x.size - (at_ + (Pl.num x.size).length) = (str x).length by rw [str_size]; omega, List.take_left]
set_option maxRecDepth 100000 in
set_option maxHeartbeats 2000000 in
theorem rf3Text (g at_ m : Nat) (s x : ByteArray) (r : Str) (w : World) (h : Rd3 w g s at_) (hx : x.size ≤ m) (hm : m < 2097152) (hs : (str s).drop at_ = txtB x ++ r) (hs2 : s.size < 1099511627776) :
    Calls Tryz.prog 203 #[.pointer (some ⟨g, 0, none⟩), .int .i64 m] w (Rd3Post w g (.string x) s (at_ + (txtB x).length)) := by
  have H := Lib.hid h; obtain ⟨h1, h2, h3, h4⟩ := drop_txt hs; have HN := Lib.hid (fun (W : World) => rnumber3_any s at_ x.size (str x ++ r) W (by omega) h3 hs2); have hl2 : at_ + (txtB x).length = at_ + (Pl.num x.size).length + x.size := by unfold txtB; rw [List.length_append, str_size]; omega
  obtain ⟨nx, hnx⟩ : ∃ nx, at_ + (Pl.num x.size).length = nx := ⟨_, rfl⟩
  rw [hl2] at h2 ⊢; rw [hnx] at HN h4 h2 ⊢; obtain ⟨n, hn⟩ : ∃ n, x.size = n := ⟨_, rfl⟩
  rw [hn] at HN h4 h2 hx ⊢; have hle : nx + n ≤ s.size := by omega
  have c0 : w.cell? ⟨g, 0, none⟩ = some (.string s) := h.b.cell 0
  have c1 : w.cell? ⟨g, 1, none⟩ = some (.int .i64 at_) := h.b.cell 1
  have c2 : w.cell? ⟨g, 2, none⟩ = some (.int .i64 0) := h.b.cell 2
  have hf := h.b.frozen; have hl := h.b.lt; have g1 : ¬ (m : Int) < (n : Int) := by omega
  have g2 : ¬ (s.size : Int) - (nx : Int) < (n : Int) := by omega
  have g3 : IntKind.i64.wrap ((s.size : Int) - (nx : Int)) = (s.size : Int) - (nx : Int) := IntWalk.i64_in _ (by omega)
  have g4 : IntKind.i64.wrap ((nx : Int) + (n : Int)) = (nx : Int) + (n : Int) := IntWalk.i64_in _ (by omega)
  have g5 : ((nx : Int) + (n : Int)).toNat = nx + n := by omega
  have g6 : (nx : Int) + (n : Int) ≤ s.size := by omega
  have g7 : (nx : Int) ≤ (nx : Int) + (n : Int) := by omega
  have g8 : (0 : Int) ≤ (nx : Int) + (n : Int) := by omega
  clear h hs hnx h1 h2 h3 hl2 hn
  go_enter Tryz.func203, Tryz.ntmps203
  go_upto_region 3 with fail
  go_region_held3 (fun W => W.cell? ⟨g, 0, none⟩ = some (.string s) ∧ W.cell? ⟨g, 1, none⟩ = some (.int .i64 at_)) (exact ⟨c0, c1⟩) (first
    | (go_at_call 253; refine (HN.out _).mono ?_; rintro e w2 ⟨rfl, rfl⟩))
  go_wp2_with fail
  go_ret
  exact ⟨rfl, ⟨H.out.b.drew.set_ 1 _⟩, ((Off.refl [g] w).drew).setCell (.inr (by simp)) _⟩
set_option maxRecDepth 100000 in
set_option maxHeartbeats 2000000 in
theorem rf3Count (g at_ m n : Nat) (s : ByteArray) (r : Str) (w : World) (h : Rd3 w g s at_) (hx : n ≤ m) (hm : m < 2097152) (hq : n * 7 ≤ r.length) (hs : (str s).drop at_ = Pl.num n ++ r) (hs2 : s.size < 1099511627776) :
    Calls Tryz.prog 205 #[.pointer (some ⟨g, 0, none⟩), .int .i64 m, .int .i64 7] w (Rd3Post w g (.int .i64 n) s (at_ + (Pl.num n).length)) := by
  have H := Lib.hid h; obtain ⟨h1, h2⟩ := drop_num hs; have HN := Lib.hid (fun (W : World) => rnumber3_any s at_ n r W (by omega) hs hs2); obtain ⟨nx, hnx⟩ : ∃ nx, at_ + (Pl.num n).length = nx := ⟨_, rfl⟩
  rw [hnx] at HN h2 ⊢; have c0 : w.cell? ⟨g, 0, none⟩ = some (.string s) := h.b.cell 0
  have c1 : w.cell? ⟨g, 1, none⟩ = some (.int .i64 at_) := h.b.cell 1
  have c2 : w.cell? ⟨g, 2, none⟩ = some (.int .i64 0) := h.b.cell 2
  have hf := h.b.frozen; have hl := h.b.lt; have g1 : ¬ (m : Int) < (n : Int) := by omega
  have hmx : max (7 : Int) 1 = 7 := by omega
  obtain ⟨D, hD⟩ : ∃ D, r.length = D := ⟨_, rfl⟩
  rw [hD] at h2 hq; have hDD : (s.size : Int) - (nx : Int) = (D : Int) := by omega
  have g3 : IntKind.i64.wrap ((s.size : Int) - (nx : Int)) = (D : Int) := by rw [hDD]; exact IntWalk.i64_in _ (by omega)
  have g33 : IntKind.i64.wrap (D : Int) = (D : Int) := IntWalk.i64_in _ (by omega)
  have g4 : (D : Int).tdiv 7 = ((D / 7 : Nat) : Int) := by rw [Int.tdiv_eq_ediv_of_nonneg (by omega)]; omega
  obtain ⟨q, hqq⟩ : ∃ q, D / 7 = q := ⟨_, rfl⟩
  rw [hqq] at g4; have hqb : q ≤ 1099511627776 := by omega
  have hDb : D ≤ 1099511627776 := by omega
  have g5 : ¬ (q : Int) < (n : Int) := by omega
  have g6 : wrap64 (q : Int) = q := IntWalk.wrap64_in _ (by omega)
  obtain ⟨l, hl7⟩ : ∃ l : Int, (7 : Int) = l := ⟨_, rfl⟩
  rw [hl7] at g4 hmx ⊢; have hl0 : ¬ l = 0 := by omega
  have hl1 : (l == 0) = false := beq_eq_false_iff_ne.2 hl0
  have HL7 := Lib.hid hl7; clear h hs hnx h1 hqq hq h2 hD hl7 g33
  go_enter Tryz.func205, Tryz.ntmps205
  go_upto_region 3 with fail
  go_region_held3 (fun W => W.cell? ⟨g, 0, none⟩ = some (.string s) ∧ W.cell? ⟨g, 1, none⟩ = some (.int .i64 at_)) (exact ⟨c0, c1⟩) (first
    | (go_at_call 253; refine (HN.out _).mono ?_; rintro e w2 ⟨rfl, rfl⟩))
  go_wp2_with fail
  go_ret
  exact ⟨rfl, ⟨H.out.b.drew.set_ 1 _⟩, ((Off.refl [g] w).drew).setCell (.inr (by simp)) _⟩
set_option maxRecDepth 100000 in
theorem rf3End (g : Nat) (s : ByteArray) (w : World) (h : Rd3 w g s s.size) :
    Calls Tryz.prog 206 #[.pointer (some ⟨g, 0, none⟩)] w fun e w' => e = .returned (.int .i64 0) ∧ Off [] w w' := by
  have c0 : w.cell? ⟨g, 0, none⟩ = some (.string s) := h.b.cell 0
  have c1 : w.cell? ⟨g, 1, none⟩ = some (.int .i64 s.size) := h.b.cell 1
  have c2 : w.cell? ⟨g, 2, none⟩ = some (.int .i64 0) := h.b.cell 2
  have hl := h.b.lt; clear h
  go_enter Tryz.func206, Tryz.ntmps206
  go_wp2_with fail
  go_quiet (fail)
  go_wp2_with fail
  go_ret
  exact ⟨rfl, (Off.refl _ _).drewN _⟩
end
section
open Go.RowKit Go.Op
theorem rbit_even {v : BitVec 32} (h : v.toNat % 2 = 0) : ((v.toNat : Int) / 2) = ((Crc.bit1 v).toNat : Int) := by
  have hlsb : v.getLsbD 0 = false := by rw [BitVec.getLsbD, Nat.testBit_zero, h]; rfl
  have hsh : (v >>> 1).toNat = v.toNat / 2 := by rw [BitVec.toNat_ushiftRight, Nat.shiftRight_eq_div_pow]
  rw [Crc.bit1_even hlsb, hsh]; omega
theorem rbit_odd {v : BitVec 32} (h : v.toNat % 2 = 1) : bits BinOp.xor IntKind.u32 ((v.toNat : Int) / 2) 3988292384 = ((Crc.bit1 v).toNat : Int) := by
  have hlsb : v.getLsbD 0 = true := by rw [BitVec.getLsbD, Nat.testBit_zero, h]; rfl
  have hsh : (v >>> 1).toNat = v.toNat / 2 := by rw [BitVec.toNat_ushiftRight, Nat.shiftRight_eq_div_pow]
  have h3 := u32_xor_nat (v.toNat / 2) 3988292384 (by have := v.isLt; omega) (by omega); unfold Crc.bit1; rw [hlsb]; simp only [if_true]; rw [BitVec.toNat_xor, hsh]; exact h3
theorem not_int2 (v : BitVec 32) : bits BinOp.xor IntKind.u32 (v.toNat : Int) 4294967295 = ((~~~ v).toNat : Int) := by
  have h3 := u32_xor_nat v.toNat 4294967295 v.isLt (by omega); have e : v.toNat ^^^ 4294967295 = (~~~ v).toNat := by
    have := congrArg BitVec.toNat (BitVec.not_def (x := v)); rw [this, BitVec.toNat_xor, Nat.xor_comm]
    rfl
  rw [← e, ← h3]
  rfl
set_option maxRecDepth 100000 in
set_option maxHeartbeats 2000000 in
theorem rfcrc_any (s : ByteArray) (w : World) (hs : s.size < 1099511627776) : Calls Tryz.prog 303 #[.string s] w fun e w' => e = .returned (.int .u32 ((Crc.crc (str s)).toNat : Int)) ∧ Off [] w w' := by
  go_enter Tryz.func303, Tryz.ntmps303
  go_wp2_with fail
  go_loop [3, 4] (fun v i => ∃ m : Nat, m ≤ s.size ∧ i = .int .i64 m ∧ Hid (v = .int .u32 ((Crc.run (~~~ 0#32) ((str s).take m)).toNat : Int))) (fun _ i => s.size - (intOf i).toNat)
  case atStart => exact ⟨0, by omega, rfl, Lib.hid rfl⟩
  case round =>
    obtain ⟨m, hm, rfl, HV⟩ := hrel
    by_cases hms : m < s.size
    · obtain ⟨v, hv⟩ : ∃ v, Crc.run (~~~ 0#32) ((str s).take m) = v := ⟨_, rfl⟩
      have ha := HV.out; rw [hv] at ha; subst ha; obtain ⟨b, hb⟩ : ∃ b, s[m]'hms = b := ⟨_, rfl⟩
      have hnext : Crc.run (~~~ 0#32) ((str s).take (m + 1)) = Crc.step v b := by
        have e : (str s)[m]? = some b := by
          have hl : m < (str s).length := by rw [str_size]; exact hms
          rw [List.getElem?_eq_getElem hl, ← hb]; rfl
        rw [List.take_add_one, e, Crc.run_append, hv]
        rfl
      have HN := Lib.hid hnext; obtain ⟨v1, hv1⟩ : ∃ v1, v ^^^ BitVec.ofNat 32 b.toNat = v1 := ⟨_, rfl⟩
      have hx1 := byte_int v b; rw [hv1] at hx1; have HX1 := Lib.hid hx1; have HST := Lib.hid (show Crc.step v b = itB 8 v1 by rw [Crc.step_eq]; unfold Crc.stepR; rw [hv1]; rfl); clear hnext hv hv1 hx1
      go_wp2_with fail
      go_loop [3, 5] (fun v i => ∃ k : Nat, k ≤ 8 ∧ i = .int .i64 k ∧ Hid (v = .int .u32 ((itB k v1).toNat : Int))) (fun _ i => 8 - (intOf i).toNat)
      case atStart => exact ⟨0, by omega, rfl, Lib.hid (by rw [HX1.out]; rfl)⟩
      case round =>
        obtain ⟨k, hk, rfl, HA⟩ := hrel; obtain ⟨z, hz⟩ : ∃ z, itB k v1 = z := ⟨_, rfl⟩
        have ha := HA.out; rw [hz] at ha; have HZ := Lib.hid hz; subst ha; clear hz
        by_cases hk8 : k < 8
        · rcases Nat.mod_two_eq_zero_or_one z.toNat with h2 | h2
          · have hq : (z.toNat : Int) % 2 = 0 := by omega
            have HB := Lib.hid (rbit_even h2); clear h2
            go_wp2_with fail
            go_round
            case rel => exact ⟨k + 1, by omega, by go_num, Lib.hid (by show _ = Value.int .u32 ((Crc.bit1 (itB k v1)).toNat : Int); rw [HZ.out, ← HB.out])⟩
            case measure => simp [intOf]; omega
          have hq : (z.toNat : Int) % 2 = 1 := by omega
          have HB := Lib.hid (rbit_odd h2); clear h2
          go_wp2_with fail
          go_round
          case rel => exact ⟨k + 1, by omega, by go_num, Lib.hid (by show _ = Value.int .u32 ((Crc.bit1 (itB k v1)).toNat : Int); rw [HZ.out, ← HB.out])⟩
          case measure => simp [intOf]; omega
        have hk8 : k = 8 := by omega
        subst hk8
        go_wp2_with fail
        go_round
        case rel => exact ⟨m + 1, by omega, by go_num, Lib.hid (by rw [HN.out, HST.out, HZ.out])⟩
        case measure => simp [intOf]; omega
    obtain rfl : m = s.size := by omega
    have ha := HV.out; rw [List.take_of_length_le (by rw [str_size]; exact Nat.le_refl _)] at ha; subst ha
    go_wp2_with fail
    go_ret
    refine ⟨?_, Off.refl _ _⟩
    show Ending.returned (.int .u32 (bits BinOp.xor IntKind.u32 ((Crc.run (4294967295#32) (str s)).toNat : Int) 4294967295)) = _
    rw [not_int2]
    rfl
set_option maxRecDepth 100000 in
set_option maxHeartbeats 2000000 in
theorem rfnumber_any (s : ByteArray) (at_ : Nat) (a b c d : UInt8) (w : World) (h : ∃ t, (str s).drop at_ = a :: b :: c :: d :: t) (hs : s.size < 1099511627776) :
    Calls Tryz.prog 302 #[.string s, .int .i64 at_] w fun e w' => e = .returned (.int .u32 ((numF a b c d : Nat) : Int)) ∧ Off [] w w' := by
  obtain ⟨t, ht⟩ := h; have hl := congrArg List.length ht; rw [List.length_drop, str_size] at hl; simp only [List.length_cons] at hl; have hs4 : at_ + 4 ≤ s.size := by omega
  clear hl; have g : ∀ (i : Nat) (hi : at_ + i < s.size) (x : UInt8), (a :: b :: c :: d :: t)[i]? = some x → s[at_ + i]'hi = x := fun i hi x hx => by
    rw [← ht, List.getElem?_drop] at hx; exact (List.getElem?_eq_some_iff.1 hx).2
  have g0 : s[at_]'(by omega) = a := g 0 (by omega) a rfl
  have g1 := g 1 (by omega) b rfl; have g2 := g 2 (by omega) c rfl; have g3 := g 3 (by omega) d rfl; have t1 : ((at_ : Int) + 1).toNat = at_ + 1 := by omega
  have t2 : ((at_ : Int) + 2).toNat = at_ + 2 := by omega
  have t3 : ((at_ : Int) + 3).toNat = at_ + 3 := by omega
  have w1' : IntKind.i64.wrap ((at_ : Int) + 1) = (at_ : Int) + 1 := IntWalk.i64_in _ (by omega)
  have w2' : IntKind.i64.wrap ((at_ : Int) + 2) = (at_ : Int) + 2 := IntWalk.i64_in _ (by omega)
  have w3' : IntKind.i64.wrap ((at_ : Int) + 3) = (at_ : Int) + 3 := IntWalk.i64_in _ (by omega)
  have b0 : (at_ : Int) < s.size := by omega
  have b1 : (at_ : Int) + 1 < s.size := by omega
  have b2 : (at_ : Int) + 2 < s.size := by omega
  have b3 : (at_ : Int) + 3 < s.size := by omega
  have p1 : (0 : Int) ≤ (at_ : Int) + 1 := by omega
  have p2 : (0 : Int) ≤ (at_ : Int) + 2 := by omega
  have p3 : (0 : Int) ≤ (at_ : Int) + 3 := by omega
  clear ht g
  go_enter Tryz.func302, Tryz.ntmps302
  go_wp2_with fail
  go_quiet (fail)
  go_wp2_with fail
  go_ret
  refine ⟨?_, (Off.refl _ _).drewN _⟩
  show Ending.returned (.int .u32 ((((a.toNat : Int) % 4294967296 * 16777216 + (b.toNat : Int) % 4294967296 * 65536 + (c.toNat : Int) % 4294967296 * 256) % 4294967296 + (d.toNat : Int) % 4294967296) % 4294967296)) = _
  have h1 := a.toNat_lt; have h2 := b.toNat_lt; have h3 := c.toNat_lt; have h4 := d.toNat_lt
  congr 2
  unfold numF; omega
set_option maxRecDepth 100000 in
set_option maxHeartbeats 4000000 in
theorem rfnext_any (s : ByteArray) (w : World) (hs : s.size < 1099511627776) :
    Calls Tryz.prog 252 #[.string s] w fun e w' => e = .returned (.tuple #[.string (bs (nextV (str s)).1), .string (bs (nextV (str s)).2.1), .int .i64 (nextV (str s)).2.2]) ∧ Off [] w w' := by
  rcases eight_or (str s) with h8 | ⟨a, b, c, d, e, f, g, h, t, hst⟩
  · rw [nextV_short h8]
    rw [str_size] at h8; have hlt : (s.size : Int) < 8 := by omega
    clear h8
    go_enter Tryz.func252, Tryz.ntmps252
    go_wp2_with fail
    go_ret3
    exact ⟨rfl, Off.refl _ _⟩
  have hl := congrArg List.length hst; rw [str_size] at hl; simp only [List.length_cons] at hl; have hlt : ¬ (s.size : Int) < 8 := by omega
  obtain ⟨N, hN⟩ : ∃ N, numF a b c d = N := ⟨_, rfl⟩
  obtain ⟨M, hM⟩ : ∃ M, numF e f g h = M := ⟨_, rfl⟩
  have HNUM := Lib.hid (fun (W : World) => rfnumber_any s 0 a b c d W ⟨_, hst⟩ hs); have hs4 : ∃ t, (str s).drop 4 = e :: f :: g :: h :: t := ⟨t, by rw [hst]; rfl⟩
  have HNU2 := Lib.hid (fun (W : World) => rfnumber_any s 4 e f g h W hs4 hs); rw [hN] at HNUM; rw [hM] at HNU2; have HV := Lib.hid (show nextV (str s) = if 1048576 < N then ([], [], 50 - 18) else if t.length < N then ([], [], 50) else if M = (Crc.crc ([a, b, c, d] ++ t.take N)).toNat then (t.take N, t.drop N, 0) else ([], [], 51) from by
    rw [hst, ← hN, ← hM]; rfl)
  have hNl : N < 4294967296 := by rw [← hN]; exact numF_lt a b c d
  clear hN hM hs4
  by_cases h1 : 1048576 < N
  · have g1 : (1048576 : Int) < N := by omega
    rw [HV.out, if_pos h1]; clear h1 hl
    go_enter Tryz.func252, Tryz.ntmps252
    go_wp2_with fail
    refine (HNUM.out _).mono ?_
    rintro e w1 ⟨rfl, ho1⟩
    go_wp2_with fail
    go_ret3
    exact ⟨rfl, ho1⟩
  have g1 : ¬ (1048576 : Int) < N := by omega
  have q1 : ((N : Nat) : Int) % 4294967296 = N := by omega
  by_cases h2 : t.length < N
  · have g2 : (s.size : Int) - 8 < N := by omega
    rw [HV.out, if_neg h1, if_pos h2]; clear h1 h2 hl
    go_enter Tryz.func252, Tryz.ntmps252
    go_wp2_with fail
    refine (HNUM.out _).mono ?_
    rintro e w1 ⟨rfl, ho1⟩
    go_wp2_with fail
    go_ret3
    exact ⟨rfl, ho1⟩
  have g2 : ¬ (s.size : Int) - 8 < N := by omega
  have q2 : (8 + (N : Int)) % 4294967296 = 8 + (N : Int) := by omega
  have q3 : IntKind.u32.wrap (8 + (N : Int)) = 8 + (N : Int) := by rw [IntKind.wrap_u32']; exact q2
  have q4 : (8 + (N : Int)).toNat = 8 + N := by omega
  have q6 : IntKind.i64.wrap (8 + (N : Int)) = 8 + (N : Int) := IntWalk.i64_in _ (by omega)
  have q5 : (8 : Int) + N ≤ s.size := by omega
  have hp : s.extract 8 (8 + N) = bs (t.take N) := str_inj (by
    rw [str_extract, str_bs, hst]; simp only [List.drop_succ_cons, List.drop_zero]; rw [show 8 + N - 8 = N by omega])
  have hr : s.extract (8 + N) s.size = bs (t.drop N) := str_inj (by
    rw [str_extract, str_bs, hst, List.take_of_length_le (by simp only [List.length_drop, List.length_cons]; omega), Nat.add_comm]
    rfl)
  have hq : s.extract 0 4 = bs [a, b, c, d] := str_inj (by
    rw [str_extract, str_bs, hst]
    rfl)
  obtain ⟨P, hP⟩ : ∃ P, t.take N = P := ⟨_, rfl⟩
  obtain ⟨R, hR⟩ : ∃ R, t.drop N = R := ⟨_, rfl⟩
  rw [hP] at hp; rw [hR] at hr; have hPl : P.length ≤ 1048576 := by rw [← hP, List.length_take]; omega
  have HC := Lib.hid (fun (W : World) => rfcrc_any (bs ([a, b, c, d] ++ P)) W (by rw [bs_size, List.length_append]; simp; omega)); rw [str_bs] at HC; have hadd : ∀ wx : World, (Op.stringOp .add (bs [a, b, c, d]) (bs P)).run Tryz.prog wx = .ok (.string (bs ([a, b, c, d] ++ P))) wx := fun wx => by
    rw [run_string_add_sum wx _ _ (by rw [bs_size, bs_size]; simp; omega)]; rw [show bs [a, b, c, d] ++ bs P = bs ([a, b, c, d] ++ P) from str_inj (by rw [str_append, str_bs, str_bs, str_bs])]
  have hMl := HV.out; rw [if_neg h1, if_neg h2, hP, hR] at hMl; obtain ⟨C, hC⟩ : ∃ C, (Crc.crc ([a, b, c, d] ++ P)).toNat = C := ⟨_, rfl⟩
  rw [hC] at hMl HC; obtain ⟨Q, hQ⟩ : ∃ Q, bs P = Q := ⟨_, rfl⟩
  obtain ⟨R2, hR2⟩ : ∃ R2, bs R = R2 := ⟨_, rfl⟩
  obtain ⟨H4, hH4⟩ : ∃ H4, bs [a, b, c, d] = H4 := ⟨_, rfl⟩
  obtain ⟨J, hJ⟩ : ∃ J, bs ([a, b, c, d] ++ P) = J := ⟨_, rfl⟩
  rw [hQ] at hp; rw [hR2] at hr; rw [hH4] at hq; rw [hQ, hH4, hJ] at hadd; rw [hJ] at HC; have HQR := Lib.hid (And.intro hQ hR2); rw [hMl]; clear HV hst hP hR hPl hC hQ hR2 hH4 hJ h1 h2 hMl hNl
  have he : Ending.returned (.tuple #[.string (bs (if M = C then (P, R, (0 : Int)) else ([], [], 51)).1), .string (bs (if M = C then (P, R, (0 : Int)) else ([], [], 51)).2.1), .int .i64 (if M = C then (P, R, (0 : Int)) else ([], [], 51)).2.2]) = if M = C then Ending.returned (.tuple #[.string Q, .string R2, .int .i64 0]) else Ending.returned (.tuple #[.string ⟨#[]⟩, .string ⟨#[]⟩, .int .i64 51]) := by
    rw [← HQR.out.1, ← HQR.out.2]
    split <;> rfl
  rw [he]; have hs8 : (8 : Int) ≤ s.size := by omega
  have hs44 : (4 : Int) ≤ s.size := by omega
  clear he HQR hl
  by_cases hMC : M = C
  · have hb : ((M : Int) == (C : Int)) = true := by rw [hMC]; exact beq_self_eq_true _
    have hb2 : ((M : Int) != (C : Int)) = false := by rw [bne, hb]; rfl
    rw [if_pos hMC]; clear hMC
    go_enter Tryz.func252, Tryz.ntmps252
    go_wp2_with fail
    refine (HNUM.out _).mono ?_
    rintro e w1 ⟨rfl, ho1⟩; have HO1 := Lib.hid ho1; clear ho1
    go_upto_region 9 with fail
    refine code_gen (fun W => Hid (Off [] w W)) HO1 ?_
    rintro W HW
    go_region_held3 (fun _ => True) (trivial) (first
      | (go_at_call 302; refine (HNU2.out _).mono ?_; rintro e w2 ⟨rfl, ho2⟩)
      | (go_at_call 303; refine (HC.out _).mono ?_; rintro e w3 ⟨rfl, ho3⟩))
    all_goals
      go_upto_region 11 with fail
      go_quiet (fail)
      go_wp2_with fail
      go_ret3
      refine ⟨rfl, ?_⟩
      have hd := (Off.refl [] W).drew; refine Off.drewN ?_ _
      first
        | exact HW.out.trans_nil (hd.trans_nil (Off.trans_nil (by assumption : Off [] W.drew _) (by assumption)))
        | exact HW.out.trans_nil (hd.trans_nil (by assumption : Off [] W.drew _))
  have hb : ((M : Int) == (C : Int)) = false := beq_eq_false_iff_ne.2 (by omega)
  have hb2 : ((M : Int) != (C : Int)) = true := by rw [bne, hb]; rfl
  rw [if_neg hMC]; clear hMC
  go_enter Tryz.func252, Tryz.ntmps252
  go_wp2_with fail
  refine (HNUM.out _).mono ?_
  rintro e w1 ⟨rfl, ho1⟩; have HO1 := Lib.hid ho1; clear ho1
  go_upto_region 9 with fail
  refine code_gen (fun W => Hid (Off [] w W)) HO1 ?_
  rintro W HW
  go_region_held3 (fun _ => True) (trivial) (first
    | (go_at_call 302; refine (HNU2.out _).mono ?_; rintro e w2 ⟨rfl, ho2⟩)
    | (go_at_call 303; refine (HC.out _).mono ?_; rintro e w3 ⟨rfl, ho3⟩))
  all_goals
    go_wp2_with fail
    go_ret3
    refine ⟨rfl, ?_⟩
    have hd := (Off.refl [] W).drew
    first
      | exact HW.out.trans_nil (hd.trans_nil (Off.trans_nil (by assumption : Off [] W.drew _) (by assumption)))
      | exact HW.out.trans_nil (hd.trans_nil (by assumption : Off [] W.drew _))
theorem nextV_rest {s : Str} (h : (nextV s).2.1 ≠ []) : (nextV s).2.2 = 0 := by
  unfold nextV at h ⊢
  split
  · split
    · rename_i h1; simp only [h1, if_true] at h; exact absurd rfl h
    split
    · rename_i h1 h2; simp only [h1, h2, if_true, if_false] at h; exact absurd rfl h
    split
    · rfl
    rename_i h1 h2 h3; simp only [h1, h2, h3, if_false] at h; exact absurd rfl h
  rename_i hh
  exfalso
  split at h
  · rename_i a b c d e f g k t; exact hh a b c d e f g k t rfl
  exact h rfl
set_option maxRecDepth 100000 in
theorem rfone_any (s : ByteArray) (w : World) (hs : s.size < 1099511627776) :
    Calls Tryz.prog 202 #[.string s] w fun e w' => e = .returned (.tuple #[.string (bs (oneE (str s)).1), .int .i64 (oneE (str s)).2]) ∧ Off [] w w' := by
  have HX := rfnext_any s w hs; have hr0 := nextV_rest (s := str s); unfold oneE; obtain ⟨r, hr⟩ : ∃ r, nextV (str s) = r := ⟨_, rfl⟩
  obtain ⟨p, q, e0⟩ := r; rw [hr] at HX hr0 ⊢; simp only [] at HX hr0 ⊢; have HX := Lib.hid HX; clear hr; obtain ⟨P, hP⟩ : ∃ P, bs p = P := ⟨_, rfl⟩
  rw [hP] at HX
  by_cases hq : q = []
  · rw [if_neg (by rw [hq]; simp), hP]
    have he : (bs q).toList.isEmpty = true := by rw [toList_str, str_bs, hq]; rfl
    obtain ⟨Q, hQ⟩ : ∃ Q, bs q = Q := ⟨_, rfl⟩
    rw [hQ] at HX he; clear hq hQ hP hr0
    by_cases h0 : e0 = 0
    · subst h0
      go_enter Tryz.func202, Tryz.ntmps202
      go_wp2_with fail
      refine HX.out.mono ?_
      rintro e w1 ⟨rfl, ho⟩
      go_wp2_with fail
      go_ret2
      exact ⟨rfl, ho⟩
    have hb : (e0 == 0) = false := beq_eq_false_iff_ne.2 h0
    clear h0
    go_enter Tryz.func202, Tryz.ntmps202
    go_wp2_with fail
    refine HX.out.mono ?_
    rintro e w1 ⟨rfl, ho⟩
    go_wp2_with fail
    go_ret2
    exact ⟨rfl, ho⟩
  rw [if_pos hq]; have h0 := hr0 hq; subst h0; have he : (bs q).toList.isEmpty = false := by
    rw [toList_str, str_bs]
    cases q with
    | nil => exact absurd rfl hq
    | cons x q => rfl
  obtain ⟨Q, hQ⟩ : ∃ Q, bs q = Q := ⟨_, rfl⟩
  rw [hQ] at HX he; clear hq hQ hP hr0
  go_enter Tryz.func202, Tryz.ntmps202
  go_wp2_with fail
  refine HX.out.mono ?_
  rintro e w1 ⟨rfl, ho⟩
  go_wp2_with fail
  go_ret2
  exact ⟨rfl, ho⟩
end
section
open Go.RowKit Go.Op
set_option maxRecDepth 100000 in
set_option maxHeartbeats 2000000 in
theorem rfdigits_any (s : ByteArray) (w : World) (hs : s.size ≤ 1048576) (b : Bool) (hb : digitsV s = b) :
    Calls Tryz.prog 183 #[.string s] w fun e w' => e = .returned (.bool b) ∧ Off [] w w' := by
  have HB := Lib.hid hb; clear hb
  go_enter Tryz.func183, Tryz.ntmps183
  go_wp2_with fail
  go_loop [3] (fun x => ∃ i : Nat, x = .int .i64 i ∧ i ≤ s.size ∧ Hid (∀ (j : Nat) c, j < i → (str s)[j]? = some c → digitB c = true)) (fun x => s.size - (intOf x).toNat)
  case atStart => exact ⟨0, rfl, by omega, Lib.hid (fun j c h => absurd h (Nat.not_lt_zero _))⟩
  case round =>
    obtain ⟨i, rfl, hi, HL⟩ := hrel
    by_cases hlt : i < s.size
    · obtain ⟨c, hc⟩ : ∃ c, s[i]'hlt = c := ⟨_, rfl⟩
      have hcs : (str s)[i]? = some c := by
        have hl : i < (str s).length := by rw [str_size]; exact hlt
        rw [List.getElem?_eq_getElem hl, ← hc]; rfl
      have HC := Lib.hid hcs; clear hcs; have good : digitB c = true → ∀ (j : Nat) d, j < i + 1 → (str s)[j]? = some d → digitB d = true := fun hd j d hj hjd => by
        rcases Nat.lt_or_ge j i with h | h
        · exact HL.out j d h hjd
        obtain rfl : j = i := by omega
        rw [HC.out] at hjd
        cases hjd
        exact hd
      have HG := Lib.hid good; have bad : digitB c = false → b = false := fun hd => by
        rw [← HB.out]; unfold digitsV; have : (str s).all digitB = false := by
          rw [List.all_eq_false]; exact ⟨c, List.mem_of_getElem? HC.out, by rw [hd]; decide⟩
        rw [this, Bool.and_false]
      have HBD := Lib.hid bad; clear good bad
      by_cases q0 : c.toNat < 48
      · have HD := Lib.hid (show digitB c = false by unfold digitB; simp; omega)
        have k1 : ¬ (48 : Int) ≤ c.toNat := by omega
        have k2 : ¬ (97 : Int) ≤ c.toNat := by omega
        clear q0; have hbf := HBD.out HD.out; subst hbf
        go_wp2_with fail
        go_ret
        exact ⟨rfl, Off.refl _ _⟩
      by_cases q1 : c.toNat ≤ 57
      · have HD := Lib.hid (show digitB c = true by unfold digitB; simp; omega)
        have k1 : (48 : Int) ≤ c.toNat := by omega
        have k2 : (c.toNat : Int) ≤ 57 := by omega
        clear q1 q0
        go_wp2_with fail
        go_round
        case rel => exact ⟨i + 1, by go_num, by omega, Lib.hid (HG.out HD.out)⟩
        case measure => simp [intOf]; omega
      by_cases q2 : c.toNat < 97
      · have HD := Lib.hid (show digitB c = false by unfold digitB; simp; omega)
        have k1 : (48 : Int) ≤ c.toNat := by omega
        have k2 : ¬ (c.toNat : Int) ≤ 57 := by omega
        have k3 : ¬ (97 : Int) ≤ c.toNat := by omega
        clear q2 q0 q1; have hbf := HBD.out HD.out; subst hbf
        go_wp2_with fail
        go_ret
        exact ⟨rfl, Off.refl _ _⟩
      by_cases q3 : c.toNat ≤ 102
      · have HD := Lib.hid (show digitB c = true by unfold digitB; simp; omega)
        have k1 : (48 : Int) ≤ c.toNat := by omega
        have k2 : ¬ (c.toNat : Int) ≤ 57 := by omega
        have k3 : (97 : Int) ≤ c.toNat := by omega
        have k4 : (c.toNat : Int) ≤ 102 := by omega
        clear q3 q0 q1 q2
        go_wp2_with fail
        go_round
        case rel => exact ⟨i + 1, by go_num, by omega, Lib.hid (HG.out HD.out)⟩
        case measure => simp [intOf]; omega
      have HD := Lib.hid (show digitB c = false by unfold digitB; simp; omega); have k1 : (48 : Int) ≤ c.toNat := by omega
      have k2 : ¬ (c.toNat : Int) ≤ 57 := by omega
      have k3 : (97 : Int) ≤ c.toNat := by omega
      have k4 : ¬ (c.toNat : Int) ≤ 102 := by omega
      clear q0 q1 q2 q3; have hbf := HBD.out HD.out; subst hbf
      go_wp2_with fail
      go_ret
      exact ⟨rfl, Off.refl _ _⟩
    obtain rfl : i = s.size := by omega
    have hall : (str s).all digitB = true := List.all_eq_true.2 fun c hc => by
      obtain ⟨j, hj, rfl⟩ := List.getElem_of_mem hc; exact HL.out j _ (by rw [str_size] at hj; exact hj) (List.getElem?_eq_getElem hj)
    have hv : decide (s.size = 64) = b := by rw [← HB.out]; unfold digitsV; rw [hall, Bool.and_true]
    by_cases h64 : s.size = 64
    · have hq : ((s.size : Int) == 64) = true := by rw [h64]; rfl
      rw [decide_eq_true h64] at hv; subst hv; clear h64 hall
      go_wp2_with fail
      go_ret
      exact ⟨rfl, Off.refl _ _⟩
    have hq : ((s.size : Int) == 64) = false := beq_eq_false_iff_ne.2 (by omega)
    rw [decide_eq_false h64] at hv; subst hv; clear h64 hall
    go_wp2_with fail
    go_ret
    exact ⟨rfl, Off.refl _ _⟩
set_option maxRecDepth 100000 in
set_option maxHeartbeats 2000000 in
theorem rfisbare_any (tp : Option Addr) (t : List Node) (n c : Nat) (w : World) (hR : Row w tp t) (hn : t.length = n) (hb : n ≤ 1099511627776) (hF : Fits1 t) (b : Bool) (hbb : bareV t = b) :
    Calls Tryz.prog 130 #[.slice tp n c] w fun e w' => e = .returned (.bool b) ∧ Off [] w w' := by
  have HN := Lib.hid hn; have HR := Lib.hid hR; have HF := Lib.hid hF; have HB := Lib.hid hbb; clear hn hR hF hbb
  go_enter Tryz.func130, Tryz.ntmps130
  go_wp2_with fail
  go_loopw [3] (fun x wr => ∃ i : Nat, x = .int .i64 i ∧ i ≤ n ∧ Off [] w wr ∧ Hid (∀ (j : Nat) x, j < i → t[j]? = some x → bareN x = true)) (fun x _ => n - (intOf x).toNat)
  case atStart => exact ⟨0, rfl, by omega, Off.refl _ _, Lib.hid (fun j x h => absurd h (Nat.not_lt_zero _))⟩
  case round =>
    obtain ⟨i, rfl, hi, ho, HL⟩ := hrel
    by_cases hlt : i < n
    · have hil : i < t.length := by rw [HN.out]; exact hlt
      obtain ⟨a, rfl, hat, hab⟩ := (HR.out.off ho).get i hil; have HX := Lib.hid (List.getElem?_eq_getElem hil); have HM := Lib.hid (HF.out _ (List.getElem_mem hil)); generalize t[i] = x at hat HX HM; have c1 := hat.kind; have c2 := hat.data; have HDG := Lib.hid (fun (W : World) (b : Bool) (hb : digitsV x.data = b) => rfdigits_any x.data W HM.out.2 b hb)
      have bad : bareN x = false → b = false := fun hd => by
        rw [← HB.out]; unfold bareV; have : t.all bareN = false := by
          rw [List.all_eq_false]; exact ⟨x, List.mem_of_getElem? HX.out, by rw [hd]; decide⟩
        rw [this, Bool.and_false]
      have HBD := Lib.hid bad; have good : bareN x = true → ∀ (j : Nat) d, j < i + 1 → t[j]? = some d → bareN d = true := fun hd j d hj hjd => by
        rcases Nat.lt_or_ge j i with h | h
        · exact HL.out j d h hjd
        obtain rfl : j = i := by omega
        rw [HX.out] at hjd
        cases hjd
        exact hd
      have HG := Lib.hid good; have hltI : (i : Int) < (n : Int) := by omega
      clear bad good hat hil
      by_cases hk : x.kind = 2
      · have hq : (x.kind == 2) = true := by rw [hk]; rfl
        have HD := Lib.hid (show bareN x = true by unfold bareN; rw [hk]; rfl)
        go_wp2_with fail
        exact ⟨⟨i + 1, by congr 1, by omega, ho, Lib.hid (HG.out HD.out)⟩, by (try simp only [intOf]); omega⟩
      have hq : (x.kind == 2) = false := beq_eq_false_iff_ne.2 hk
      have hq2 : (x.kind != 2) = true := by rw [bne, hq]; rfl
      cases hd : digitsV x.data
      · have hbf := HBD.out (by unfold bareN; rw [hd, decide_eq_false hk]; rfl)
        subst hbf; have H1 := Lib.hid (fun W => HDG.out W false hd); clear hd hk
        go_wp2_with fail
        refine (H1.out _).mono ?_
        rintro e w2 ⟨rfl, ho2⟩; have HO2 := Lib.hid (ho.trans_nil ho2); clear ho2
        go_wp2_with fail
        go_ret
        exact ⟨rfl, HO2.out⟩
      have HD := Lib.hid (show bareN x = true by unfold bareN; rw [hd, Bool.or_true]); have H1 := Lib.hid (fun W => HDG.out W true hd); clear hd hk
      go_wp2_with fail
      refine (H1.out _).mono ?_
      rintro e w2 ⟨rfl, ho2⟩; have HO2 := Lib.hid (ho.trans_nil ho2); clear ho2
      go_wp2_with fail
      exact ⟨⟨i + 1, by congr 1, by omega, HO2.out, Lib.hid (HG.out HD.out)⟩, by (try simp only [intOf]); omega⟩
    obtain rfl : i = n := by omega
    have hall : t.all bareN = true := List.all_eq_true.2 fun c hc => by
      obtain ⟨j, hj, rfl⟩ := List.getElem_of_mem hc; exact HL.out j _ (by rw [HN.out] at hj; exact hj) (List.getElem?_eq_getElem hj)
    have hv : okTree t = b := by rw [← HB.out]; unfold bareV; rw [hall, Bool.and_true]
    have HC := Lib.hid (rcheck_any tp t i c wr (HR.out.off ho) HN.out hb HF.out); unfold chkV at HC; rw [hv] at HC; have HO := Lib.hid ho; clear hv hall ho
    cases b
    all_goals
      go_wp2_with fail
      refine HC.out.mono ?_
      rintro e w2 ⟨rfl, ho2⟩; have HO2 := Lib.hid (HO.out.trans_nil ho2); clear ho2
      go_wp2_with fail
      go_ret
      exact ⟨rfl, HO2.out⟩
end
section
open Go.RowKit Go.Op
set_option maxRecDepth 100000 in
set_option maxHeartbeats 4000000 in
theorem rf9check_any (v : Value) (a : Arc) (w : World) (hA : ArcAt w v a) (hF1 : Fits1 a.tree) (hl1 : a.tree.length ≤ 1099511627776) (r : Int) (hr : chkA a = r) :
    Calls Tryz.prog 71 #[v] w fun e w' => e = .returned (.int .i64 r) ∧ Off [] w w' := by
  obtain ⟨⟨tp, c, sp, d, rfl, hR, hS, hc, hcm, hd, hdm, _⟩, hF, hlen, hps, hser, _⟩ := hA; unfold chkA okArc at hr; obtain ⟨n, hn⟩ : ∃ n, a.tree.length = n := ⟨_, rfl⟩
  obtain ⟨m, hm⟩ : ∃ m, a.stamps.length = m := ⟨_, rfl⟩
  have HB := Lib.hid (fun (W : World) (ho : Off [] w W) (b : Bool) (hb : bareV a.tree = b) => rfisbare_any tp a.tree n c W (hR.off ho) hn (by omega) hF1 b hb); have HS := Lib.hid hS; have HM := Lib.hid hm; rw [hn, hm] at hr ⊢; obtain ⟨pr, hpr⟩ : ∃ pr, a.pair = pr := ⟨_, rfl⟩
  obtain ⟨sr, hsr⟩ : ∃ sr, a.serial = sr := ⟨_, rfl⟩
  obtain ⟨bv, hbv⟩ : ∃ bv, bareV a.tree = bv := ⟨_, rfl⟩
  rw [hbv] at hr; have HB := Lib.hid (fun W ho => HB.out W ho bv hbv); rw [hpr, hsr] at hr ⊢; rw [hpr] at hps; rw [hsr] at hser; have hmb : m ≤ 10000000000000 := by omega
  obtain ⟨ss, hss⟩ : ∃ ss, a.stamps = ss := ⟨_, rfl⟩
  rw [hss] at hr HS HM; clear hpr hsr hbv hR hS hF hn hm hc hd hcm hdm hlen hF1 hl1 hss
  by_cases h1 : pr.size = 0
  · have g1 : (pr.size : Int) < 1 := by omega
    rw [decide_eq_false (show ¬ 1 ≤ pr.size by omega)] at hr; have hr : (90 : Int) = r := hr
    clear h1; subst hr
    go_enter Tryz.func71, Tryz.ntmps71
    go_wp2_with fail
    go_ret
    exact ⟨rfl, (Off.refl _ _).alloc _⟩
  have g1 : ¬ (pr.size : Int) < 1 := by omega
  rw [decide_eq_true (show 1 ≤ pr.size by omega)] at hr
  by_cases h2 : 64 < pr.size
  · have g2 : (64 : Int) < pr.size := by omega
    rw [decide_eq_false (show ¬ pr.size ≤ 64 by omega)] at hr; have hr : (90 : Int) = r := hr
    clear h1 h2; subst hr
    go_enter Tryz.func71, Tryz.ntmps71
    go_wp2_with fail
    go_ret
    exact ⟨rfl, (Off.refl _ _).alloc _⟩
  have g2 : ¬ (64 : Int) < pr.size := by omega
  rw [decide_eq_true (show pr.size ≤ 64 by omega)] at hr; clear h1 h2
  by_cases h3 : sr < 0
  · rw [decide_eq_false (show ¬ 0 ≤ sr by omega)] at hr
    have hr : (90 : Int) = r := hr
    subst hr
    go_enter Tryz.func71, Tryz.ntmps71
    go_wp2_with fail
    go_ret
    exact ⟨rfl, (Off.refl _ _).alloc _⟩
  rw [decide_eq_true (show 0 ≤ sr by omega)] at hr
  cases bv
  · have hr : (90 : Int) = r := hr
    subst hr
    go_enter Tryz.func71, Tryz.ntmps71
    go_wp2_with fail
    have HO := Lib.hid ((Off.refl [] w).alloc (.cells #[.string pr, .int .i64 sr, .slice tp n c, .slice sp m d] 52)); refine (HB.out _ HO.out).mono ?_; rintro e w1 ⟨rfl, ho1⟩; have HB0 := Lib.hid ((Blk.new w 52 #[.string pr, .int .i64 sr, .slice tp n c, .slice sp m d]).off ho1 (by simp)); have hc1 := HB0.out.cell; have hl1 := HB0.out.lt; have HO1 := Lib.hid (HO.out.trans_nil ho1); clear ho1
    go_wp2_with fail
    go_ret
    exact ⟨rfl, HO1.out⟩
  by_cases h5 : ¬ m = n
  · have g5 : ((m : Int) == (n : Int)) = false := beq_eq_false_iff_ne.2 (by omega)
    have g6 : ((m : Int) != (n : Int)) = true := by rw [bne, g5]; rfl
    have g7 : ¬ (m : Int) = (n : Int) := by omega
    rw [decide_eq_false h5] at hr; have hr : (90 : Int) = r := hr
    clear h5; subst hr
    go_enter Tryz.func71, Tryz.ntmps71
    go_wp2_with fail
    have HO := Lib.hid ((Off.refl [] w).alloc (.cells #[.string pr, .int .i64 sr, .slice tp n c, .slice sp m d] 52)); refine (HB.out _ HO.out).mono ?_; rintro e w1 ⟨rfl, ho1⟩; have HB0 := Lib.hid ((Blk.new w 52 #[.string pr, .int .i64 sr, .slice tp n c, .slice sp m d]).off ho1 (by simp)); have hc1 := HB0.out.cell; have hl1 := HB0.out.lt; have HO1 := Lib.hid (HO.out.trans_nil ho1); clear ho1
    go_wp2_with fail
    go_ret
    exact ⟨rfl, HO1.out⟩
  have h5 : m = n := by omega
  have g5 : ((m : Int) == (n : Int)) = true := by rw [h5]; exact beq_self_eq_true _
  have g6 : ((m : Int) != (n : Int)) = false := by rw [bne, g5]; rfl
  rw [decide_eq_true h5] at hr; clear h5; have hr : (if ss.all stmOk then (0 : Int) else 90) = r := hr
  have HR := Lib.hid hr; clear hr
  go_enter Tryz.func71, Tryz.ntmps71
  go_wp2_with fail
  have HO := Lib.hid ((Off.refl [] w).alloc (.cells #[.string pr, .int .i64 sr, .slice tp n c, .slice sp m d] 52)); refine (HB.out _ HO.out).mono ?_; rintro e w1 ⟨rfl, ho1⟩; have HB0 := Lib.hid ((Blk.new w 52 #[.string pr, .int .i64 sr, .slice tp n c, .slice sp m d]).off ho1 (by simp)); have HO1 := Lib.hid (HO.out.trans_nil ho1); have hc1 := HB0.out.cell; have hl1 := HB0.out.lt; clear ho1
  go_wp2_with fail
  go_loop [3] (fun x => ∃ i : Nat, x = .int .i64 i ∧ i ≤ m ∧ Hid (∀ (j : Nat) x, j < i → ss[j]? = some x → stmOk x = true)) (fun x => m - (intOf x).toNat)
  case atStart => exact ⟨0, rfl, by omega, Lib.hid (fun j x h => absurd h (Nat.not_lt_zero _))⟩
  case round =>
    obtain ⟨i, rfl, hi, HL⟩ := hrel
    by_cases hlt : i < m
    · have hil : i < ss.length := by rw [HM.out]; exact hlt
      obtain ⟨sa, rfl, sat, sab⟩ := (HS.out.off HO1.out).get i hil; have HX := Lib.hid (List.getElem?_eq_getElem hil); generalize ss[i] = x at sat HX; obtain ⟨x1, x2, x3⟩ := x; have c0 := sat.i0; have c1 := sat.i1; have c2 := sat.i2; dsimp only at c0 c1 c2; have hltI : (i : Int) < (m : Int) := by omega
      have HBD := Lib.hid (show stmOk (x1, x2, x3) = false → (90 : Int) = r from fun hd => by
        rw [← HR.out]; have : ss.all stmOk = false := by
          rw [List.all_eq_false]; exact ⟨_, List.mem_of_getElem? HX.out, by rw [hd]; decide⟩
        rw [this]
        rfl)
      have HG := Lib.hid (show stmOk (x1, x2, x3) = true → ∀ (j : Nat) d, j < i + 1 → ss[j]? = some d → stmOk d = true from fun hd j d hj hjd => by
        rcases Nat.lt_or_ge j i with h | h
        · exact HL.out j d h hjd
        obtain rfl : j = i := by omega
        rw [HX.out] at hjd
        cases hjd
        exact hd)
      clear sat hil
      by_cases h1 : x1 < 0
      · have hb := HBD.out (by unfold stmOk; simp; omega)
        subst hb
        go_wp2_with fail
        go_ret
        exact ⟨rfl, HO1.out⟩
      by_cases h2 : x2 < 0
      · have hb := HBD.out (by unfold stmOk; simp; omega)
        subst hb
        go_wp2_with fail
        go_ret
        exact ⟨rfl, HO1.out⟩
      by_cases h3 : x3 < 0
      · have hb := HBD.out (by unfold stmOk; simp; omega)
        subst hb
        go_wp2_with fail
        go_ret
        exact ⟨rfl, HO1.out⟩
      have HD := Lib.hid (show stmOk (x1, x2, x3) = true by unfold stmOk; simp; omega)
      go_wp2_with fail
      go_round
      case rel => exact ⟨i + 1, by go_num, by omega, Lib.hid (HG.out HD.out)⟩
      case measure => simp [intOf]; omega
    obtain rfl : i = m := by omega
    have hall : ss.all stmOk = true := List.all_eq_true.2 fun c hc => by
      obtain ⟨j, hj, rfl⟩ := List.getElem_of_mem hc; exact HL.out j _ (by rw [HM.out] at hj; exact hj) (List.getElem?_eq_getElem hj)
    have hv : (0 : Int) = r := by rw [← HR.out, hall]; rfl
    subst hv; clear hall
    go_wp2_with fail
    go_ret
    exact ⟨rfl, HO1.out⟩
set_option maxRecDepth 100000 in
set_option maxHeartbeats 4000000 in
theorem rf9match_any (v1 v2 : Value) (a b : Arc) (w : World) (hA : ArcAt w v1 a) (hB : ArcAt w v2 b) (hf1 : Fits1 a.tree) (hf2 : Fits1 b.tree) (hl1 : a.tree.length ≤ 1099511627776) (hl2 : b.tree.length ≤ 1099511627776) (r : Bool) (hr : matchV a b = r) :
    Calls Tryz.prog 47 #[v1, v2] w fun e w' => e = .returned (.bool r) ∧ Off [] w w' := by
  have HCA := Lib.hid (fun (W : World) (ho : Off [] w W) (r : Int) (h : chkA a = r) => rf9check_any v1 a W (hA.off ho) hf1 hl1 r h); have HCB := Lib.hid (fun (W : World) (ho : Off [] w W) (r : Int) (h : chkA b = r) => rf9check_any v2 b W (hB.off ho) hf2 hl2 r h); obtain ⟨⟨tp, c, sp, d, rfl, hR, hS, hc, hcm, hd, hdm, _⟩, hF, hlen, hps, hser, _⟩ := hA
  obtain ⟨⟨tp2, c2, sp2, d2, rfl, hR2, hS2, hc2, hcm2, hd2, hdm2, _⟩, hF2, hlen2, hps2, hser2, _⟩ := hB; have HSM := Lib.hid (fun (W : World) (ho : Off [] w W) => rsame_any a.tree b.tree tp tp2 c c2 W (by omega) (by omega) (hR.off ho) (hR2.off ho)); unfold matchV at hr; unfold chkA at HCA HCB; obtain ⟨oa, hoa⟩ : ∃ oa, okArc a = oa := ⟨_, rfl⟩
  obtain ⟨ob, hob⟩ : ∃ ob, okArc b = ob := ⟨_, rfl⟩
  obtain ⟨ds, hds⟩ : ∃ ds, decide (a.tree = b.tree) = ds := ⟨_, rfl⟩
  rw [hoa] at HCA hr; rw [hob] at HCB hr; rw [hds] at HSM hr; have HCA := Lib.hid (fun W ho => HCA.out W ho (if oa then 0 else 90) rfl); have HCB := Lib.hid (fun W ho => HCB.out W ho (if ob then 0 else 90) rfl); obtain ⟨n, hn⟩ : ∃ n, a.tree.length = n := ⟨_, rfl⟩
  obtain ⟨m, hm⟩ : ∃ m, a.stamps.length = m := ⟨_, rfl⟩
  obtain ⟨n2, hn2⟩ : ∃ n2, b.tree.length = n2 := ⟨_, rfl⟩
  obtain ⟨m2, hm2⟩ : ∃ m2, b.stamps.length = m2 := ⟨_, rfl⟩
  obtain ⟨p1, hp1⟩ : ∃ p1, a.pair = p1 := ⟨_, rfl⟩
  obtain ⟨p2, hp2⟩ : ∃ p2, b.pair = p2 := ⟨_, rfl⟩
  obtain ⟨s1, hs1⟩ : ∃ s1, a.serial = s1 := ⟨_, rfl⟩
  obtain ⟨s2, hs2⟩ : ∃ s2, b.serial = s2 := ⟨_, rfl⟩
  rw [hn, hn2] at HSM; rw [hn, hm, hp1, hs1] at HCA ⊢; rw [hn2, hm2, hp2, hs2] at HCB ⊢; rw [hp1, hp2, hs1, hs2] at hr; clear hn hm hn2 hm2 hp1 hp2 hs1 hs2 hoa hob hds hR hS hR2 hS2 hc hcm hd hdm hc2 hcm2 hd2 hdm2 hF hF2 hlen hlen2 hps hps2 hser hser2 hf1 hf2 hl1 hl2
  obtain ⟨W2, hW2⟩ : ∃ W2, (w.alloc (.cells #[.string p1, .int .i64 s1, .slice tp n c, .slice sp m d] 52)).alloc (.cells #[.string p2, .int .i64 s2, .slice tp2 n2 c2, .slice sp2 m2 d2] 52) = W2 := ⟨_, rfl⟩
  have HB1 := Lib.hid (show Blk W2 w.heap.size 52 #[.string p1, .int .i64 s1, .slice tp n c, .slice sp m d] by rw [← hW2]; exact (Blk.new w _ _).alloc _); have HB2 := Lib.hid (show Blk W2 (w.heap.size + 1) 52 #[.string p2, .int .i64 s2, .slice tp2 n2 c2, .slice sp2 m2 d2] by rw [← hW2]; exact Blk.new1 w _ _ _)
  have HO := Lib.hid (show Off [] w W2 by rw [← hW2]; exact ((Off.refl _ _).alloc _).alloc _); have HW2 := Lib.hid hW2; clear hW2
  cases oa
  · have hr : false = r := hr
    subst hr
    go_enter Tryz.func47, Tryz.ntmps47
    go_wp2_with fail
    rw [HW2.out]; refine (HCA.out _ HO.out).mono ?_; rintro e w1 ⟨rfl, ho1⟩; have HO1 := Lib.hid ho1; clear ho1; have k1 := HB1.out.off HO1.out (by simp); have k2 := HB2.out.off HO1.out (by simp); have e1 := k1.cell; have e2 := k2.cell; have l1 := k1.lt; have l2 := k2.lt; clear k1 k2
    go_wp2_with fail
    go_ret
    exact ⟨rfl, HO.out.trans_nil HO1.out⟩
  cases ob
  · have hr : false = r := hr
    subst hr
    go_enter Tryz.func47, Tryz.ntmps47
    go_wp2_with fail
    rw [HW2.out]; refine (HCA.out _ HO.out).mono ?_; rintro e w1 ⟨rfl, ho1⟩; have HO1 := Lib.hid ho1; clear ho1; have k1 := HB1.out.off HO1.out (by simp); have k2 := HB2.out.off HO1.out (by simp); have e1 := k1.cell; have e2 := k2.cell; have l1 := k1.lt; have l2 := k2.lt; clear k1 k2
    go_wp2_with fail
    refine (HCB.out _ (HO.out.trans_nil HO1.out)).mono ?_
    rintro e w2 ⟨rfl, ho2⟩; have HO2 := Lib.hid (HO1.out.trans_nil ho2); clear ho2 e1 e2 l1 l2; have k1 := HB1.out.off HO2.out (by simp); have k2 := HB2.out.off HO2.out (by simp); have e1 := k1.cell; have e2 := k2.cell; have l1 := k1.lt; have l2 := k2.lt; clear k1 k2
    go_wp2_with fail
    go_ret
    exact ⟨rfl, HO.out.trans_nil HO2.out⟩
  by_cases h1 : ¬ p1 = p2
  · have g1 : (p1.toList == p2.toList) = false := beq_eq_false_iff_ne.2 (fun h => h1 (toList_iff.1 h))
    rw [decide_eq_false h1] at hr; have hr : false = r := hr
    clear h1; subst hr
    go_enter Tryz.func47, Tryz.ntmps47
    go_wp2_with fail
    rw [HW2.out]; refine (HCA.out _ HO.out).mono ?_; rintro e w1 ⟨rfl, ho1⟩; have HO1 := Lib.hid ho1; clear ho1; have k1 := HB1.out.off HO1.out (by simp); have k2 := HB2.out.off HO1.out (by simp); have e1 := k1.cell; have e2 := k2.cell; have l1 := k1.lt; have l2 := k2.lt; clear k1 k2
    go_wp2_with fail
    refine (HCB.out _ (HO.out.trans_nil HO1.out)).mono ?_
    rintro e w2 ⟨rfl, ho2⟩; have HO2 := Lib.hid (HO1.out.trans_nil ho2); clear ho2 e1 e2 l1 l2; have k1 := HB1.out.off HO2.out (by simp); have k2 := HB2.out.off HO2.out (by simp); have e1 := k1.cell; have e2 := k2.cell; have l1 := k1.lt; have l2 := k2.lt; clear k1 k2
    go_wp2_with fail
    go_ret
    exact ⟨rfl, HO.out.trans_nil HO2.out⟩
  have h1 : p1 = p2 := Classical.not_not.1 h1
  subst h1; have g1 : (p1.toList == p1.toList) = true := beq_self_eq_true _
  rw [decide_eq_true (rfl : p1 = p1)] at hr
  by_cases h2 : ¬ s1 = s2
  · have g2 : (s1 == s2) = false := beq_eq_false_iff_ne.2 h2
    rw [decide_eq_false h2] at hr; have hr : false = r := hr
    subst hr
    go_enter Tryz.func47, Tryz.ntmps47
    go_wp2_with fail
    rw [HW2.out]; refine (HCA.out _ HO.out).mono ?_; rintro e w1 ⟨rfl, ho1⟩; have HO1 := Lib.hid ho1; clear ho1; have k1 := HB1.out.off HO1.out (by simp); have k2 := HB2.out.off HO1.out (by simp); have e1 := k1.cell; have e2 := k2.cell; have l1 := k1.lt; have l2 := k2.lt; clear k1 k2
    go_wp2_with fail
    refine (HCB.out _ (HO.out.trans_nil HO1.out)).mono ?_
    rintro e w2 ⟨rfl, ho2⟩; have HO2 := Lib.hid (HO1.out.trans_nil ho2); clear ho2 e1 e2 l1 l2; have k1 := HB1.out.off HO2.out (by simp); have k2 := HB2.out.off HO2.out (by simp); have e1 := k1.cell; have e2 := k2.cell; have l1 := k1.lt; have l2 := k2.lt; clear k1 k2
    go_wp2_with fail
    go_ret
    exact ⟨rfl, HO.out.trans_nil HO2.out⟩
  have h2 : s1 = s2 := Classical.not_not.1 h2
  subst h2; rw [decide_eq_true (rfl : s1 = s1)] at hr; have hr : ds = r := hr
  subst hr
  go_enter Tryz.func47, Tryz.ntmps47
  go_wp2_with fail
  rw [HW2.out]; refine (HCA.out _ HO.out).mono ?_; rintro e w1 ⟨rfl, ho1⟩; have HO1 := Lib.hid ho1; clear ho1; have k1 := HB1.out.off HO1.out (by simp); have k2 := HB2.out.off HO1.out (by simp); have e1 := k1.cell; have e2 := k2.cell; have l1 := k1.lt; have l2 := k2.lt; clear k1 k2
  go_wp2_with fail
  refine (HCB.out _ (HO.out.trans_nil HO1.out)).mono ?_
  rintro e w2 ⟨rfl, ho2⟩; have HO2 := Lib.hid (HO1.out.trans_nil ho2); clear ho2 e1 e2 l1 l2; have k1 := HB1.out.off HO2.out (by simp); have k2 := HB2.out.off HO2.out (by simp); have e1 := k1.cell; have e2 := k2.cell; have l1 := k1.lt; have l2 := k2.lt; clear k1 k2
  go_wp2_with fail
  refine (HSM.out _ (HO.out.trans_nil HO2.out)).mono ?_
  rintro e w3 ⟨rfl, ho3⟩; have HO3 := Lib.hid (HO2.out.trans_nil ho3); clear ho3 e1 e2 l1 l2
  go_wp2_with fail
  go_ret
  exact ⟨rfl, HO.out.trans_nil HO3.out⟩
end
section
open Go.RowKit Go.Op
theorem eqStm (x y : Int × Int × Int) (w : World) : (Op.equalIn 10000 93 (.agg #[.int .i64 x.1, .int .i64 x.2.1, .int .i64 x.2.2]) (.agg #[.int .i64 y.1, .int .i64 y.2.1, .int .i64 y.2.2])).run Tryz.prog w = .ok (decide (x = y)) w := by
  have u3 := Tryz.underlying3; have a3 := Tryz.isAgg3; have z3 := Tryz.sizeOf3; have hS : Tryz.prog.underlying 93 = some (.struct (Tryz.prog.fieldsOf 93)) := by kernel_rfl
  have hp : Tryz.prog.stoodInHeld 93 = false := by kernel_rfl
  rw [show (10000 : Nat) = 9999 + 1 from rfl, run_equalIn_agg w 9999 93 _ _ hS hp]; simp only [Program.fieldsOf, Tryz.underlying93]
  go_simp
  obtain ⟨x1, x2, x3⟩ := x; obtain ⟨y1, y2, y3⟩ := y
  by_cases h1 : x1 = y1 <;> by_cases h2 : x2 = y2 <;> by_cases h3 : x3 = y3 <;> simp [h1, h2, h3]
set_option maxRecDepth 100000 in
set_option maxHeartbeats 4000000 in
theorem rsamest_any (L M : List (Int × Int × Int)) (p q : Option Addr) (c d : Nat) (w : World) (hL : L.length ≤ 10000000000000) (hM : M.length ≤ 10000000000000) (hp : SRow3 w p L) (hq : SRow3 w q M) :
    Calls Tryz.prog 27 #[.slice p L.length c, .slice q M.length d] w fun e w' => e = .returned (.bool (decide (L = M))) ∧ Off [] w w' := by
  obtain ⟨l, hl⟩ : ∃ l, L.length = l := ⟨_, rfl⟩
  obtain ⟨m, hm⟩ : ∃ m, M.length = m := ⟨_, rfl⟩
  rw [hl, hm]; rw [hl] at hL; rw [hm] at hM; have HP := Lib.hid hp; have HQ := Lib.hid hq; have HL := Lib.hid hl; have HM := Lib.hid hm; clear hp hq hl hm
  by_cases hlm : l = m
  · subst hlm
    go_enter Tryz.func27, Tryz.ntmps27
    go_wp2_with fail
    go_loopw [5] (fun x wr => ∃ i : Nat, x = .int .i64 i ∧ i ≤ l ∧ Off [] w wr ∧ Hid (L.take i = M.take i)) (fun x _ => l - (intOf x).toNat)
    case atStart => exact ⟨0, rfl, by omega, Off.refl _ _, Lib.hid rfl⟩
    case round =>
      obtain ⟨i, rfl, hi, ho, htk⟩ := hrel
      by_cases hlt : i < l
      · have hi1 := List.getElem?_eq_getElem (show i < L.length by rw [HL.out]; exact hlt)
        have hi2 := List.getElem?_eq_getElem (show i < M.length by rw [HM.out]; exact hlt); obtain ⟨a, rfl, hna, hab⟩ := (HP.out.off ho).get i (show i < L.length by rw [HL.out]; exact hlt); obtain ⟨b, rfl, hnb, hbb⟩ := (HQ.out.off ho).get i (show i < M.length by rw [HM.out]; exact hlt); generalize L[i]'(by rw [HL.out]; exact hlt) = x at *
        generalize M[i]'(by rw [HM.out]; exact hlt) = y at *
        have c0 := hna.i0; have c1 := hna.i1; have c2 := hna.i2; have d0 := hnb.i0; have d1 := hnb.i1; have d2 := hnb.i2; have heq := eqStm x y; have hgd : Tryz.prog.eqGuardType Tryz.prog.depth 93 = false := by kernel_rfl
        have HI1 := Lib.hid hi1; have HI2 := Lib.hid hi2; have habk : (a.add (i * 3)).block < wr.heap.size := by rw [add_block]; exact hab
        have hbbk : (b.add (i * 3)).block < wr.heap.size := by rw [add_block]; exact hbb
        clear hna hnb hi1 hi2
        by_cases hxy : x = y
        · have hd : decide (x = y) = true := decide_eq_true hxy
          have HXY := Lib.hid hxy; rw [hd] at heq; clear hxy hd
          go_wp2_with fail
          go_quiet (fail)
          go_wp2_with fail
          refine ⟨⟨i + 1, by congr 1, by omega, ho.drewN _, Lib.hid ?_⟩, by simp only [intOf]; omega⟩
          rw [take_get HI1.out, take_get HI2.out, htk.out, HXY.out]
        have hd : decide (x = y) = false := decide_eq_false hxy
        have HXY := Lib.hid hxy; rw [hd] at heq; clear hxy hd
        go_wp2_with fail
        go_quiet (fail)
        go_wp2_with fail
        go_ret
        have hne : L ≠ M := fun e => by
          have h1 := HI1.out; rw [e, HI2.out] at h1; exact HXY.out (Option.some.inj h1).symm
        exact ⟨by rw [decide_eq_false hne]; rfl, ho.drewN _⟩
      obtain rfl : i = l := by omega
      go_wp2_with fail
      go_ret
      have he : L = M := by
        have := htk.out; rw [List.take_of_length_le (by rw [HL.out]; exact Nat.le_refl _), List.take_of_length_le (by rw [HM.out]; exact Nat.le_refl _)] at this; exact this
      exact ⟨by rw [decide_eq_true he]; rfl, ho⟩
  have hne : L ≠ M := fun e => hlm (by rw [← HL.out, ← HM.out, e])
  have HNE := Lib.hid hne; clear hne
  go_enter Tryz.func27, Tryz.ntmps27
  go_wp2_with fail
  go_ret
  exact ⟨by rw [decide_eq_false HNE.out]; rfl, Off.refl _ _⟩
set_option maxRecDepth 100000 in
set_option maxHeartbeats 4000000 in
theorem rf9same_any (v1 v2 : Value) (a : Arc) (w : World) (hA : ArcAt w v1 a) (hB : ArcAt w v2 a) (hl : a.tree.length ≤ 1099511627776) :
    Calls Tryz.prog 48 #[v1, v2] w fun e w' => e = .returned (.bool true) ∧ Off [] w w' := by
  obtain ⟨⟨tp, c, sp, d, rfl, hR, hS, hc, hcm, hd, hdm, _⟩, hF, hlen, hps, hser, _⟩ := hA; obtain ⟨⟨tp2, c2, sp2, d2, rfl, hR2, hS2, hc2, hcm2, hd2, hdm2, _⟩, hF2, hlen2, hps2, hser2, _⟩ := hB; have HSM := Lib.hid (fun (W : World) (ho : Off [] w W) => rsame_any a.tree a.tree tp tp2 c c2 W (by omega) (by omega) (hR.off ho) (hR2.off ho))
  have HST := Lib.hid (fun (W : World) (ho : Off [] w W) => rsamest_any a.stamps a.stamps sp sp2 d d2 W (by omega) (by omega) (hS.off ho) (hS2.off ho)); rw [decide_eq_true (rfl : a.tree = a.tree)] at HSM; rw [decide_eq_true (rfl : a.stamps = a.stamps)] at HST; obtain ⟨n, hn⟩ : ∃ n, a.tree.length = n := ⟨_, rfl⟩
  obtain ⟨m, hm⟩ : ∃ m, a.stamps.length = m := ⟨_, rfl⟩
  obtain ⟨p1, hp1⟩ : ∃ p1, a.pair = p1 := ⟨_, rfl⟩
  obtain ⟨s1, hs1⟩ : ∃ s1, a.serial = s1 := ⟨_, rfl⟩
  rw [hn] at HSM ⊢; rw [hm] at HST ⊢; rw [hp1, hs1]; clear hn hm hp1 hs1 hR hS hR2 hS2 hc hcm hd hdm hc2 hcm2 hd2 hdm2 hF hF2 hlen hlen2 hps hps2 hser hser2 hl; have g1 : (p1.toList == p1.toList) = true := beq_self_eq_true _
  obtain ⟨W2, hW2⟩ : ∃ W2, (w.alloc (.cells #[.string p1, .int .i64 s1, .slice tp n c, .slice sp m d] 52)).alloc (.cells #[.string p1, .int .i64 s1, .slice tp2 n c2, .slice sp2 m d2] 52) = W2 := ⟨_, rfl⟩
  have HB1 := Lib.hid (show Blk W2 w.heap.size 52 #[.string p1, .int .i64 s1, .slice tp n c, .slice sp m d] by rw [← hW2]; exact (Blk.new w _ _).alloc _); have HB2 := Lib.hid (show Blk W2 (w.heap.size + 1) 52 #[.string p1, .int .i64 s1, .slice tp2 n c2, .slice sp2 m d2] by rw [← hW2]; exact Blk.new1 w _ _ _)
  have HO := Lib.hid (show Off [] w W2 by rw [← hW2]; exact ((Off.refl _ _).alloc _).alloc _); have HW2 := Lib.hid hW2; clear hW2
  go_enter Tryz.func48, Tryz.ntmps48
  go_wp2_with fail
  rw [HW2.out]; refine (HSM.out _ HO.out).mono ?_; rintro e w1 ⟨rfl, ho1⟩; have HO1 := Lib.hid ho1; have k1 := HB1.out.off ho1 (by simp); have k2 := HB2.out.off ho1 (by simp); have e1 := k1.cell; have e2 := k2.cell; have l1 := k1.lt; have l2 := k2.lt; clear ho1 k1 k2
  go_wp2_with fail
  refine (HST.out _ (HO.out.trans_nil HO1.out)).mono ?_
  rintro e w2 ⟨rfl, ho2⟩; have HO2 := Lib.hid (HO1.out.trans_nil ho2); clear ho2 e1 e2 l1 l2
  go_wp2_with fail
  go_ret
  exact ⟨rfl, HO.out.trans_nil HO2.out⟩
end
section
open Go.RowKit Go.Op
structure DeR (w W : World) (g : Nat) (s : ByteArray) (g7 : Nat) (a : Arc) (i j at_ : Nat) (tv sv : Value) : Prop where
  off : Off [] w W
  rd : Rd3 W g s at_
  var : Blk W g7 52 #[.string a.pair, .int .i64 a.serial, tv, sv]
  res : Blk W w.heap.size 52 zArc
  tree : W.ownsRow w.heap.size 30 4 tv i (cellsOf (a.tree.take i))
  stm : W.ownsRow w.heap.size 93 3 sv j (stC (a.stamps.take j))
  lo : w.heap.size ≤ g ∧ w.heap.size < g7
section
variable {w W W' : World} {g g7 i j at_ at' : Nat} {s : ByteArray} {a : Arc} {tv sv : Value}
theorem DeR.off_ (h : DeR w W g s g7 a i j at_ tv sv) (ho : Off [] W W') : DeR w W' g s g7 a i j at_ tv sv :=
  ⟨h.off.trans_nil ho, ⟨h.rd.b.off ho (by simp)⟩, h.var.off ho (by simp), h.res.off ho (by simp), own_offk h.tree ho (by simp), own_offk h.stm ho (by simp), h.lo⟩
theorem DeR.read (h : DeR w W g s g7 a i j at_ tv sv) {e : Ending} {v : Value} (k : Rd3Post W g v s at' e W') : DeR w W' g s g7 a i j at' tv sv := by
  obtain ⟨_, h1, h2⟩ := k; refine ⟨h.off.trans h2 (fun x hx hm => ?_), h1, h.var.off h2 ?_, h.res.off h2 ?_, own_offk h.tree h2 (own_neA h.tree h.rd.b (by decide)), own_offk h.stm h2 (own_neA h.stm h.rd.b (by decide)), h.lo⟩
  · rw [List.mem_singleton] at hm
    have := h.lo; omega
  · rw [List.mem_singleton]; exact h.var.ne_ h.rd.b (by decide)
  rw [List.mem_singleton]; exact h.res.ne_ h.rd.b (by decide)
theorem DeR.push (h : DeR w W g s g7 a i j at_ tv sv) {n : Node} (hx : a.tree[i]? = some n) {o : Obj} {v' : Value} {w1 : World} (hown : w1.ownsRow w.heap.size 30 4 v' (i + 1) (cellsOf (a.tree.take i) ++ [.string n.path, .int .i64 n.kind, .string n.data, .int .i64 n.mode])) (hg : (W.alloc o).grownBy w1 tv.ownBlock) :
    DeR w (w1.setCell ⟨g7, 2, none⟩ v') g s g7 a (i + 1) j at_ v' sv := by
  have hA := h.off_ ((Off.refl [] W).alloc o); have hrow : ∀ {g1 : Nat} {t : TypeId} {cs : Array Value}, Blk (W.alloc o) g1 t cs → 30 ≠ t → Blk w1 g1 t cs := fun {g1 t cs} hB ht => hB.grown hg (fun e => by
    have := own_neA hA.tree hB ht g1 (by rw [← e]; simp); simp at this)
  have hO : Off [] w w1 := hA.off.grown hg (fun g2 hg' => .inl (by
    rcases hA.tree.2 with ⟨rfl, _⟩ | ⟨g', cap, cur, rfl, hb, _⟩
    · cases hg'
    cases hg'; exact hb))
  have hv1 := hrow hA.var (by decide); have hb1 := hrow hA.rd.b (by decide); have hs1 : w1.ownsRow w.heap.size 93 3 sv j (stC (a.stamps.take j)) := by
    refine ⟨hA.stm.1, ?_⟩
    rcases hA.stm.2 with hn | ⟨g, cap, cur, k1, k2, k3, k4⟩
    · exact .inl hn
    exact .inr ⟨g, cap, cur, k1, k2, hrow (t := 93) k3 (by decide), k4⟩
  have hset : Off [g7] w1 (w1.setCell ⟨g7, 2, none⟩ v') := (Off.refl _ _).setCell (.inr (by simp)) _
  refine ⟨hO.setCell (.inl (by have := h.lo; show w.heap.size ≤ g7; omega)) _, ⟨hb1.off hset ?_⟩, hv1.set_ 2 v', (hrow hA.res (by decide)).off hset ?_, ?_, own_offk hs1 hset (own_neA hs1 hv1 (by decide)), h.lo⟩
  · rw [List.mem_singleton]; exact hb1.ne_ hv1 (by decide)
  · rw [List.mem_singleton]; have := h.lo; omega
  rw [List.take_add_one, hx, cellsOf_append]; exact own_offk hown hset (own_neA hown hv1 (by decide))
theorem DeR.pushS (h : DeR w W g s g7 a i j at_ tv sv) {n : Int × Int × Int} (hx : a.stamps[j]? = some n) {o : Obj} {v' : Value} {w1 : World} (hown : w1.ownsRow w.heap.size 93 3 v' (j + 1) (stC (a.stamps.take j) ++ [.int .i64 n.1, .int .i64 n.2.1, .int .i64 n.2.2])) (hg : (W.alloc o).grownBy w1 sv.ownBlock) :
    DeR w (w1.setCell ⟨g7, 3, none⟩ v') g s g7 a i (j + 1) at_ tv v' := by
  have hA := h.off_ ((Off.refl [] W).alloc o); have hrow : ∀ {g1 : Nat} {t : TypeId} {cs : Array Value}, Blk (W.alloc o) g1 t cs → 93 ≠ t → Blk w1 g1 t cs := fun {g1 t cs} hB ht => hB.grown hg (fun e => by
    have := own_neA hA.stm hB ht g1 (by rw [← e]; simp); simp at this)
  have hO : Off [] w w1 := hA.off.grown hg (fun g2 hg' => .inl (by
    rcases hA.stm.2 with ⟨rfl, _⟩ | ⟨g', cap, cur, rfl, hb, _⟩
    · cases hg'
    cases hg'; exact hb))
  have hv1 := hrow hA.var (by decide); have hb1 := hrow hA.rd.b (by decide); have hs1 : w1.ownsRow w.heap.size 30 4 tv i (cellsOf (a.tree.take i)) := by
    refine ⟨hA.tree.1, ?_⟩
    rcases hA.tree.2 with hn | ⟨g, cap, cur, k1, k2, k3, k4⟩
    · exact .inl hn
    exact .inr ⟨g, cap, cur, k1, k2, hrow (t := 30) k3 (by decide), k4⟩
  have hset : Off [g7] w1 (w1.setCell ⟨g7, 3, none⟩ v') := (Off.refl _ _).setCell (.inr (by simp)) _
  refine ⟨hO.setCell (.inl (by have := h.lo; show w.heap.size ≤ g7; omega)) _, ⟨hb1.off hset ?_⟩, hv1.set_ 3 v', (hrow hA.res (by decide)).off hset ?_, own_offk hs1 hset (own_neA hs1 hv1 (by decide)), ?_, h.lo⟩
  · rw [List.mem_singleton]; exact hb1.ne_ hv1 (by decide)
  · rw [List.mem_singleton]; have := h.lo; omega
  rw [List.take_add_one, hx, stC_append]; exact own_offk hown hset (own_neA hown hv1 (by decide))
end
theorem DeR.grownT {w W : World} {g g7 i j at_ : Nat} {s : ByteArray} {a : Arc} {tv sv : Value} (h : DeR w W g s g7 a i j at_ tv sv) {o : Obj} {w1 : World} (hg : (W.alloc o).grownBy w1 tv.ownBlock) : Blk w1 g7 52 #[.string a.pair, .int .i64 a.serial, tv, sv] := by
  have hA := h.off_ ((Off.refl [] W).alloc o); exact hA.var.grown hg (fun e => by
    have := own_neA hA.tree hA.var (by decide) g7 (by rw [← e]; simp); simp at this)
theorem DeR.grownS {w W : World} {g g7 i j at_ : Nat} {s : ByteArray} {a : Arc} {tv sv : Value} (h : DeR w W g s g7 a i j at_ tv sv) {o : Obj} {w1 : World} (hg : (W.alloc o).grownBy w1 sv.ownBlock) : Blk w1 g7 52 #[.string a.pair, .int .i64 a.serial, tv, sv] := by
  have hA := h.off_ ((Off.refl [] W).alloc o); exact hA.var.grown hg (fun e => by
    have := own_neA hA.stm hA.var (by decide) g7 (by rw [← e]; simp); simp at this)
set_option maxRecDepth 100000 in
set_option maxHeartbeats 4000000 in
theorem rfdecode_bad (s : ByteArray) (w : World) (hs : s.size < 1099511627776) (h : oneV (str s) = none) :
    Calls Tryz.prog 153 #[.string s] w fun e w' => e = .returned (.tuple #[.agg #[.string ⟨#[]⟩, .int .i64 0, .slice none 0 0, .slice none 0 0], .int .i64 90]) ∧ Off [] w w' := by
  have HX := (fun (W : World) => rfone_any s W hs); have hne := oneE_none h; obtain ⟨r, hr⟩ : ∃ r, oneE (str s) = r := ⟨_, rfl⟩
  obtain ⟨p, e0⟩ := r; rw [hr] at HX hne; simp only [] at HX hne; have HX := Lib.hid HX; have hb : (e0 == 0) = false := beq_eq_false_iff_ne.2 hne
  have hb2 : (e0 != 0) = true := by rw [bne, hb]; rfl
  clear hr hne h
  go_enter Tryz.func153, Tryz.ntmps153
  go_wp2_with fail
  refine (HX.out _).mono ?_
  rintro e w1 ⟨rfl, ho1⟩; have HB := Lib.hid ((Blk.new w 52 #[.string ⟨#[]⟩, .int .i64 0, .slice none 0 0, .slice none 0 0]).off ho1 (by simp)); have HO := Lib.hid (show Off [] w w1 from ((Off.refl _ _).alloc _).trans_nil ho1); clear ho1 HX; have hc := HB.out.cell; have hf := HB.out.frozen; have hl := HB.out.lt
  go_wp2_with fail
  refine bodyPost_ret (v := .tuple #[.agg #[.string ⟨#[]⟩, .int .i64 0, .slice none 0 0, .slice none 0 0], .int .i64 90]) ?_ rfl ⟨rfl, ?_⟩
  · have hres : Tryz.f153.results = #[.cell 2 52, .tmp 3] := rfl
    simp only [results, hres]
    go_simp
  exact (((HO.out.setCell (.inl (Nat.le_refl _)) _).setCell (.inl (Nat.le_refl _)) _).setCell (.inl (Nat.le_refl _)) _).setCell (.inl (Nat.le_refl _)) _
section
variable {w W W' : World} {g g7 i j at_ at' : Nat} {s : ByteArray} {a : Arc} {tv sv : Value}
theorem DeR.setV (h : DeR w W g s g7 a i j at_ tv sv) {b k : Nat} {t : TypeId} {cs : Array Value} {v : Value} (hB : Blk W b t cs) (h1 : t ≠ 52) (h2 : t ≠ 262) (hn : ∀ x ∈ tv.ownBlock.toList, x ≠ b) (hs : ∀ x ∈ sv.ownBlock.toList, x ≠ b) (hlo : w.heap.size ≤ b) :
    DeR w (W.setCell ⟨b, k, none⟩ v) g s g7 a i j at_ tv sv := by
  have ho : Off [b] W (W.setCell ⟨b, k, none⟩ v) := (Off.refl _ _).setCell (.inr (by simp)) _
  refine ⟨h.off.setCell (.inl hlo) _, ⟨h.rd.b.off ho ?_⟩, h.var.off ho ?_, h.res.off ho ?_, own_offk h.tree ho (fun x hx hm => hn x hx (by simpa using hm)), own_offk h.stm ho (fun x hx hm => hs x hx (by simpa using hm)), h.lo⟩
  · rw [List.mem_singleton]; exact h.rd.b.ne_ hB h2.symm
  · rw [List.mem_singleton]; exact h.var.ne_ hB h1.symm
  rw [List.mem_singleton]; exact h.res.ne_ hB h1.symm
theorem DeR.fresh (h : DeR w W g s g7 a i j at_ tv sv) : (∀ x ∈ tv.ownBlock.toList, x < W.heap.size) ∧ ∀ x ∈ sv.ownBlock.toList, x < W.heap.size :=
  ⟨fun x hx => by obtain ⟨cs, hB⟩ := own_blks h.tree x hx; exact hB.lt, fun x hx => by obtain ⟨cs, hB⟩ := own_blks h.stm x hx; exact hB.lt⟩
end
structure DeI (w W : World) (g : Nat) (s : ByteArray) (g7 : Nat) (a : Arc) (i at_ : Nat) (tv sv : Value) (gn gs : Nat) (nc sc : Array Value) : Prop where
  d : DeR w W g s g7 a i i at_ tv sv
  n : Blk W gn 30 nc
  m : Blk W gs 93 sc
  fn : ∀ x ∈ tv.ownBlock.toList, x ≠ gn ∧ x ≠ gs
  fs : ∀ x ∈ sv.ownBlock.toList, x ≠ gn ∧ x ≠ gs
  lo : w.heap.size ≤ gn ∧ w.heap.size ≤ gs
section
variable {w W W' : World} {g g7 i at_ at' gn gs : Nat} {s : ByteArray} {a : Arc} {tv sv : Value} {nc sc : Array Value}
theorem DeI.read (h : DeI w W g s g7 a i at_ tv sv gn gs nc sc) {e : Ending} {v : Value} (k : Rd3Post W g v s at' e W') : DeI w W' g s g7 a i at' tv sv gn gs nc sc :=
  ⟨h.d.read k, h.n.off k.2.2 (by rw [List.mem_singleton]; exact h.n.ne_ h.d.rd.b (by decide)), h.m.off k.2.2 (by rw [List.mem_singleton]; exact h.m.ne_ h.d.rd.b (by decide)), h.fn, h.fs, h.lo⟩
theorem DeI.setN (h : DeI w W g s g7 a i at_ tv sv gn gs nc sc) (k : Nat) (v : Value) : DeI w (W.setCell ⟨gn, k, none⟩ v) g s g7 a i at_ tv sv gn gs (nc.setIfInBounds k v) sc :=
  ⟨h.d.setV h.n (by decide) (by decide) (fun x hx => (h.fn x hx).1) (fun x hx => (h.fs x hx).1) h.lo.1, h.n.set_ k v, h.m.far (h.m.ne_ h.n (by decide)) v, h.fn, h.fs, h.lo⟩
theorem DeI.setM (h : DeI w W g s g7 a i at_ tv sv gn gs nc sc) (k : Nat) (v : Value) : DeI w (W.setCell ⟨gs, k, none⟩ v) g s g7 a i at_ tv sv gn gs nc (sc.setIfInBounds k v) :=
  ⟨h.d.setV h.m (by decide) (by decide) (fun x hx => (h.fn x hx).2) (fun x hx => (h.fs x hx).2) h.lo.2, h.n.far (h.n.ne_ h.m (by decide)) v, h.m.set_ k v, h.fn, h.fs, h.lo⟩
end
set_option maxRecDepth 100000 in
set_option maxHeartbeats 8000000 in
theorem rfdecode_ok (a : Arc) (w : World) (hok : ArcOk a) :
    Calls Tryz.prog 153 #[.string (encV a)] w (DecTo a w (.int .i64 0)) := by
  have HOK := Lib.hid hok; have HX := fun (W : World) => rfone_any (encV a) W (by have := encV_size hok; omega)
  rw [encV_one hok] at HX; simp only [] at HX; have HX := Lib.hid HX; obtain ⟨es, hes⟩ : ∃ es, encV a = es := ⟨_, rfl⟩
  rw [hes] at HX ⊢; have hbl := bodyB_le hok; obtain ⟨s, hs⟩ : ∃ s, bs (bodyB a) = s := ⟨_, rfl⟩
  have hsz : s.size < 1099511627776 := by rw [← hs, bs_size]; omega
  have hst : str s = txtB magicB ++ (txtB a.pair ++ (numB a.serial ++ (numB a.tree.length ++ itemsB (itemsA a)))) := by rw [← hs, str_bs]; rfl
  rw [hs] at HX; have h0 : (str s).drop 0 = txtB magicB ++ (txtB a.pair ++ (numB a.serial ++ (numB a.tree.length ++ itemsB (itemsA a)))) := by rw [List.drop_zero]; exact hst
  have h1 := (drop_txt h0).1; have h2 := (drop_txt h1).1; have h3 := (drop_num (n := a.serial.toNat) h2).1; have h4 := (drop_num (n := a.tree.length) h3).1; have H0 := Lib.hid h0; have H1 := Lib.hid h1; have H2 := Lib.hid h2; have H3 := Lib.hid h3; have H4 := Lib.hid (And.intro h4 (drop_num (n := a.tree.length) h3).2); have HSZ := Lib.hid hsz; clear hs hbl hst hes hok h0 h1 h2 h3 h4 hsz
  go_enter Tryz.func153, Tryz.ntmps153
  go_wp2_with fail
  refine (HX.out _).mono ?_
  rintro e w1 ⟨rfl, ho1⟩; have HB := Lib.hid ((Blk.new w 52 zArc).off ho1 (by simp)); have HO := Lib.hid (show Off [] w w1 from ((Off.refl _ _).alloc _).trans_nil ho1); clear ho1 HX
  go_upto_region 6 with fail
  refine code_gen (fun W => Hid (Off [] w W ∧ Rd3 W w1.heap.size s 0 ∧ Blk W (w1.heap.size + 1) 52 zArc ∧ Blk W w.heap.size 52 zArc)) (Lib.hid ⟨(HO.out.alloc _).alloc _, ⟨(Blk.new w1 _ _).alloc _⟩, Blk.new1 w1 _ _ _, (HB.out.alloc _).alloc _⟩) ?_
  rintro W2 HW2; obtain ⟨g, hg⟩ : ∃ g, w1.heap.size = g := ⟨_, rfl⟩
  have HG := Lib.hid (show w.heap.size < g by have := HB.out.lt; omega); rw [hg] at HW2; rw [hg]; clear hg HB HO; have hA := HW2.out.2.2.1.cell; unfold zArc at hA
  go_wp2_with fail
  refine (rf3Text g 0 8 s magicB _ _ HW2.out.2.1 (by decide) (by omega) H0.out HSZ.out).mono ?_
  rintro e w3 ⟨rfl, hR3, ho3⟩; have HW3 := Lib.hid (show Off [] w w3 ∧ Rd3 w3 g s (0 + (txtB magicB).length) ∧ Blk w3 (g + 1) 52 zArc ∧ Blk w3 w.heap.size 52 zArc from
    ⟨HW2.out.1.trans ho3 (fun x hx hm => by rw [List.mem_singleton] at hm; have := HG.out; omega), hR3, HW2.out.2.2.1.off ho3 (by rw [List.mem_singleton]; omega), HW2.out.2.2.2.off ho3 (by rw [List.mem_singleton]; have := HG.out; omega)⟩)
  clear hR3 ho3 hA HW2; unfold magicB; have hA := HW3.out.2.2.1.cell; have hf := HW3.out.2.2.1.frozen; have hl := HW3.out.2.2.1.lt; unfold zArc at hA
  go_wp2_with fail
  refine (rf3Text g _ 64 s a.pair _ _ HW3.out.2.1 HOK.out.pair.2 (by omega) H1.out HSZ.out).mono ?_
  rintro e w4 ⟨rfl, hR4, ho4⟩; have HW4 := Lib.hid (show Off [] w w4 ∧ Rd3 w4 g s (0 + (txtB magicB).length + (txtB a.pair).length) ∧ Blk w4 (g + 1) 52 zArc ∧ Blk w4 w.heap.size 52 zArc from
    ⟨HW3.out.1.trans ho4 (fun x hx hm => by rw [List.mem_singleton] at hm; have := HG.out; omega), hR4, HW3.out.2.2.1.off ho4 (by rw [List.mem_singleton]; omega), HW3.out.2.2.2.off ho4 (by rw [List.mem_singleton]; have := HG.out; omega)⟩)
  clear hR4 ho4 hA hf hl HW3; have hA := HW4.out.2.2.1.cell; have hf := HW4.out.2.2.1.frozen; have hl := HW4.out.2.2.1.lt; unfold zArc at hA
  go_upto_region 9 with fail
  refine code_gen (fun W => Hid (Off [] w W ∧ Rd3 W g s (0 + (txtB magicB).length + (txtB a.pair).length) ∧ Blk W (g + 1) 52 #[.string a.pair, .int .i64 0, .slice none 0 0, .slice none 0 0] ∧ Blk W w.heap.size 52 zArc)) (Lib.hid ⟨HW4.out.1.setCell (.inl (by have := HG.out; show w.heap.size ≤ g + 1; omega)) _, ⟨HW4.out.2.1.b.far (by show g ≠ g + 1; omega) _⟩, by have h := HW4.out.2.2.1.set_ 0 (.string a.pair); unfold zArc at h; simpa using h, HW4.out.2.2.2.far (by have := HG.out; show w.heap.size ≠ g + 1; omega) _⟩) ?_
  rintro W5 HW5; clear hA hf hl HW4; have hA := HW5.out.2.2.1.cell; have hf := HW5.out.2.2.1.frozen; have hl := HW5.out.2.2.1.lt; have hsr : ((a.serial.toNat : Nat) : Int) = a.serial := Int.toNat_of_nonneg HOK.out.ser.1
  have HN5 := rf3Num g _ a.serial.toNat s _ _ HW5.out.2.1 (by have := HOK.out.ser; omega) H2.out HSZ.out; rw [hsr] at HN5
  go_wp2_with fail
  refine HN5.mono ?_
  rintro e w6 ⟨rfl, hR6, ho6⟩; have HW6 := Lib.hid (show Off [] w w6 ∧ Rd3 w6 g s (0 + (txtB magicB).length + (txtB a.pair).length + (Pl.num a.serial.toNat).length) ∧ Blk w6 (g + 1) 52 #[.string a.pair, .int .i64 0, .slice none 0 0, .slice none 0 0] ∧ Blk w6 w.heap.size 52 zArc from
    ⟨HW5.out.1.trans ho6 (fun x hx hm => by rw [List.mem_singleton] at hm; have := HG.out; omega), hR6, HW5.out.2.2.1.off ho6 (by rw [List.mem_singleton]; omega), HW5.out.2.2.2.off ho6 (by rw [List.mem_singleton]; have := HG.out; omega)⟩)
  clear hR6 ho6 hA hf hl HW5 HN5 hsr; have hA := HW6.out.2.2.1.cell; have hf := HW6.out.2.2.1.frozen; have hl := HW6.out.2.2.1.lt
  go_upto_region 10 with fail
  refine code_gen (fun W => Hid (DeR w W g s (g + 1) a 0 0 (0 + (txtB magicB).length + (txtB a.pair).length + (Pl.num a.serial.toNat).length) (.slice none 0 0) (.slice none 0 0))) (Lib.hid ⟨HW6.out.1.setCell (.inl (by have := HG.out; show w.heap.size ≤ g + 1; omega)) _, ⟨HW6.out.2.1.b.far (by show g ≠ g + 1; omega) _⟩, by have h := HW6.out.2.2.1.set_ 1 (.int .i64 a.serial); simpa using h, HW6.out.2.2.2.far (by have := HG.out; show w.heap.size ≠ g + 1; omega) _, ⟨rfl, .inl ⟨rfl, rfl⟩⟩, ⟨rfl, .inl ⟨rfl, rfl⟩⟩, by have := HG.out; omega, by have := HG.out; omega⟩) ?_
  rintro W7 H7; clear hA hf hl HW6; have hge := itemsB_ge (itemsA a); rw [itemsA_len HOK.out] at hge
  go_wp2_with fail
  refine (rf3Count g _ 1000 a.tree.length s _ _ H7.out.rd HOK.out.len (by omega) hge H3.out HSZ.out).mono ?_
  rintro e w8 hp; have H8 := Lib.hid (H7.out.read hp); obtain ⟨rfl, -, -⟩ := hp; obtain ⟨n, hn⟩ : ∃ n, a.tree.length = n := ⟨_, rfl⟩
  have hnb : n ≤ 1000 := by have := HOK.out.len; omega
  have HN := Lib.hid hn; obtain ⟨g7, hg7⟩ : ∃ g7, g + 1 = g7 := ⟨_, rfl⟩
  rw [hg7] at H8; rw [hg7, hn]; clear hg7 hge hn H7 HG
  go_wp2_with fail
  go_loopw [9] (fun x wr => ∃ i : Nat, x = .int .i64 i ∧ i ≤ n ∧ ∃ tv sv at_, Hid (DeR w wr g s g7 a i i at_ tv sv ∧ (str s).drop at_ = itemsB ((itemsA a).drop i) ∧ at_ + (itemsB ((itemsA a).drop i)).length = s.size)) (fun x _ => n - (intOf x).toNat)
  case atStart => exact ⟨0, rfl, by omega, _, _, _, Lib.hid ⟨H8.out, H4.out⟩⟩
  case round =>
    clear H8; obtain ⟨i, rfl, hi, tv, sv, at_, HD⟩ := hrel; have hrc : wr.cell? ⟨g, 2, none⟩ = some (.int .i64 0) := HD.out.1.rd.b.cell 2
    have hrl := HD.out.1.rd.b.lt
    by_cases hlt : i < n
    · have hltI : (i : Int) < (n : Int) := by omega
      have hil : i < a.tree.length := by rw [HN.out]; exact hlt
      have hjl : i < a.stamps.length := by rw [HOK.out.lens, HN.out]; exact hlt
      have hx := List.getElem?_eq_getElem hil; have hy := List.getElem?_eq_getElem hjl; have hnd := HOK.out.node _ (List.getElem_mem hil); have hst := HOK.out.stm _ (List.getElem_mem hjl); have hdr : itemsB ((itemsA a).drop i) = nodeB (a.tree[i], a.stamps[i]) ++ itemsB ((itemsA a).drop (i + 1)) := by
        have e : i < (itemsA a).length := by rw [itemsA_len HOK.out]; exact hil
        have e3 : (itemsA a)[i]? = some (a.tree[i], a.stamps[i]) := by unfold itemsA; rw [List.getElem?_zip_eq_some]; exact ⟨hx, hy⟩
        have e2 : (itemsA a)[i] = (a.tree[i], a.stamps[i]) := (List.getElem?_eq_some_iff.1 e3).2
        rw [List.drop_eq_getElem_cons e, e2]; unfold itemsB; rw [List.flatMap_cons]
      rw [hdr] at HD; have HXY := Lib.hid (And.intro hx hy); generalize a.tree[i] = x at hnd HD HXY; generalize a.stamps[i] = st at hst HD HXY; obtain ⟨s1, s2, s3⟩ := st; obtain ⟨R, hRR⟩ : ∃ R, itemsB ((itemsA a).drop (i + 1)) = R := ⟨_, rfl⟩
      rw [hRR] at HD; have HRR := Lib.hid hRR; have q0 : (str s).drop at_ = txtB x.path ++ (numB x.kind ++ (numB x.mode ++ (txtB x.data ++ (numB s1 ++ (numB s2 ++ (numB s3 ++ R)))))) := by
        have h := HD.out.2.1; unfold nodeB at h
        simpa only [List.append_assoc] using h
      have HD := Lib.hid HD.out.1; have q1 := (drop_txt q0).1; have q2 := (drop_num (n := x.kind.toNat) q1).1; have q3 := (drop_num (n := x.mode.toNat) q2).1; have q4 := (drop_txt q3).1; have q5 := (drop_num (n := s1.toNat) q4).1; have q6 := (drop_num (n := s2.toNat) q5).1; have q7 := (drop_num (n := s3.toNat) q6).1; have Q0 := Lib.hid q0; have Q1 := Lib.hid q1; have Q2 := Lib.hid q2
      have Q3 := Lib.hid q3; have Q4 := Lib.hid q4; have Q5 := Lib.hid q5; have Q6 := Lib.hid q6; have Q7 := Lib.hid (And.intro q7 (drop_num (n := s3.toNat) q6).2); have HND := Lib.hid (And.intro hnd hst); have hkk : ((x.kind.toNat : Nat) : Int) = x.kind := Int.toNat_of_nonneg hnd.2.2.1.1
      have hmm : ((x.mode.toNat : Nat) : Int) = x.mode := Int.toNat_of_nonneg hnd.2.2.2.1
      have HKM := Lib.hid (And.intro hkk hmm); have HSS := Lib.hid (show ((s1.toNat : Nat) : Int) = s1 ∧ ((s2.toNat : Nat) : Int) = s2 ∧ ((s3.toNat : Nat) : Int) = s3 from ⟨Int.toNat_of_nonneg hst.1.1, Int.toNat_of_nonneg hst.2.1.1, Int.toNat_of_nonneg hst.2.2.1⟩); clear hx hy hil hjl hnd hst hdr hRR hkk hmm q0 q1 q2 q3 q4 q5 q6 q7
      go_upto_region 16 with fail
      have hfr := HD.out.fresh
      refine code_gen (fun W => Hid (DeI w W g s g7 a i at_ tv sv wr.heap.size (wr.heap.size + 1) #[.string ⟨#[]⟩, .int .i64 0, .string ⟨#[]⟩, .int .i64 0] #[.int .i64 0, .int .i64 0, .int .i64 0])) (Lib.hid ⟨HD.out.off_ (((Off.refl [] wr).alloc _).alloc _), (Blk.new wr _ _).alloc _, Blk.new1 wr _ _ _, fun x hx => by have := hfr.1 x hx; omega, fun x hx => by have := hfr.2 x hx; omega, HD.out.off.size, Nat.le_succ_of_le HD.out.off.size⟩) ?_
      rintro W0 HI0; obtain ⟨gn, hgn⟩ : ∃ gn, wr.heap.size = gn := ⟨_, rfl⟩
      obtain ⟨gs, hgs⟩ : ∃ gs, wr.heap.size + 1 = gs := ⟨_, rfl⟩
      rw [hgs, hgn] at HI0; rw [hgs, hgn]; clear hgn hgs hfr hrc hrl HD
      go_wp2_with fail
      refine (rf3Text g _ 400 s x.path _ _ HI0.out.d.rd HND.out.1.1 (by omega) Q0.out HSZ.out).mono ?_
      rintro e u0 hp; have HJ := Lib.hid (HI0.out.read hp); obtain ⟨rfl, -, -⟩ := hp; have hA := HJ.out.n.cell; have hf := HJ.out.n.frozen; have hl := HJ.out.n.lt
      go_upto_region 17 with fail
      refine code_gen (fun W => Hid (DeI w W g s g7 a i (at_ + (txtB x.path).length) tv sv gn gs #[.string x.path, .int .i64 0, .string ⟨#[]⟩, .int .i64 0] #[.int .i64 0, .int .i64 0, .int .i64 0])) (Lib.hid (by have h := HJ.out.setN 0 (.string x.path); simpa using h)) ?_
      rintro W1 HI1; clear hA hf hl HJ HI0
      go_wp2_with fail
      have HN5 := rf3Num g _ x.kind.toNat s _ _ HI1.out.d.rd (by have := HND.out; omega) Q1.out HSZ.out; rw [HKM.out.1] at HN5; refine HN5.mono ?_; rintro e u1 hp; have HJ := Lib.hid (HI1.out.read hp); obtain ⟨rfl, -, -⟩ := hp; clear HN5; have hA := HJ.out.n.cell; have hf := HJ.out.n.frozen; have hl := HJ.out.n.lt
      go_upto_region 18 with fail
      refine code_gen (fun W => Hid (DeI w W g s g7 a i (at_ + (txtB x.path).length + (Pl.num x.kind.toNat).length) tv sv gn gs #[.string x.path, .int .i64 x.kind, .string ⟨#[]⟩, .int .i64 0] #[.int .i64 0, .int .i64 0, .int .i64 0])) (Lib.hid (by have h := HJ.out.setN 1 (.int .i64 x.kind); simpa using h)) ?_
      rintro W2 HI2; clear hA hf hl HJ HI1
      go_wp2_with fail
      have HN5 := rf3Num g _ x.mode.toNat s _ _ HI2.out.d.rd (by have := HND.out; omega) Q2.out HSZ.out; rw [HKM.out.2] at HN5; refine HN5.mono ?_; rintro e u2 hp; have HJ := Lib.hid (HI2.out.read hp); obtain ⟨rfl, -, -⟩ := hp; clear HN5; have hA := HJ.out.n.cell; have hf := HJ.out.n.frozen; have hl := HJ.out.n.lt
      go_upto_region 19 with fail
      refine code_gen (fun W => Hid (DeI w W g s g7 a i (at_ + (txtB x.path).length + (Pl.num x.kind.toNat).length + (Pl.num x.mode.toNat).length) tv sv gn gs #[.string x.path, .int .i64 x.kind, .string ⟨#[]⟩, .int .i64 x.mode] #[.int .i64 0, .int .i64 0, .int .i64 0])) (Lib.hid (by have h := HJ.out.setN 3 (.int .i64 x.mode); simpa using h)) ?_
      rintro W3 HI3; clear hA hf hl HJ HI2
      go_wp2_with fail
      refine (rf3Text g _ 64 s x.data _ _ HI3.out.d.rd HND.out.1.2.1 (by omega) Q3.out HSZ.out).mono ?_
      rintro e u3 hp; have HJ := Lib.hid (HI3.out.read hp); obtain ⟨rfl, -, -⟩ := hp; have hA := HJ.out.n.cell; have hf := HJ.out.n.frozen; have hl := HJ.out.n.lt
      go_upto_region 20 with fail
      refine code_gen (fun W => Hid (DeI w W g s g7 a i (at_ + (txtB x.path).length + (Pl.num x.kind.toNat).length + (Pl.num x.mode.toNat).length + (txtB x.data).length) tv sv gn gs #[.string x.path, .int .i64 x.kind, .string x.data, .int .i64 x.mode] #[.int .i64 0, .int .i64 0, .int .i64 0])) (Lib.hid (by have h := HJ.out.setN 2 (.string x.data); simpa using h)) ?_
      rintro W4 HI4; clear hA hf hl HJ HI3
      go_wp2_with fail
      have HN5 := rf3Num g _ s1.toNat s _ _ HI4.out.d.rd (by have := HND.out; omega) Q4.out HSZ.out; rw [HSS.out.1] at HN5; refine HN5.mono ?_; rintro e u4 hp; have HJ := Lib.hid (HI4.out.read hp); obtain ⟨rfl, -, -⟩ := hp; clear HN5; have hA := HJ.out.m.cell; have hf := HJ.out.m.frozen; have hl := HJ.out.m.lt
      go_upto_region 21 with fail
      refine code_gen (fun W => Hid (DeI w W g s g7 a i (at_ + (txtB x.path).length + (Pl.num x.kind.toNat).length + (Pl.num x.mode.toNat).length + (txtB x.data).length + (Pl.num s1.toNat).length) tv sv gn gs #[.string x.path, .int .i64 x.kind, .string x.data, .int .i64 x.mode] #[.int .i64 s1, .int .i64 0, .int .i64 0])) (Lib.hid (by have h := HJ.out.setM 0 (.int .i64 s1); simpa using h)) ?_
      rintro W5 HI5; clear hA hf hl HJ HI4
      go_wp2_with fail
      have HN5 := rf3Num g _ s2.toNat s _ _ HI5.out.d.rd (by have := HND.out; omega) Q5.out HSZ.out; rw [HSS.out.2.1] at HN5; refine HN5.mono ?_; rintro e u5 hp; have HJ := Lib.hid (HI5.out.read hp); obtain ⟨rfl, -, -⟩ := hp; clear HN5; have hA := HJ.out.m.cell; have hf := HJ.out.m.frozen; have hl := HJ.out.m.lt
      go_upto_region 22 with fail
      refine code_gen (fun W => Hid (DeI w W g s g7 a i (at_ + (txtB x.path).length + (Pl.num x.kind.toNat).length + (Pl.num x.mode.toNat).length + (txtB x.data).length + (Pl.num s1.toNat).length + (Pl.num s2.toNat).length) tv sv gn gs #[.string x.path, .int .i64 x.kind, .string x.data, .int .i64 x.mode] #[.int .i64 s1, .int .i64 s2, .int .i64 0])) (Lib.hid (by have h := HJ.out.setM 1 (.int .i64 s2); simpa using h)) ?_
      rintro W6 HI6; clear hA hf hl HJ HI5
      go_wp2_with fail
      have HN5 := rf3Num g _ s3.toNat s _ _ HI6.out.d.rd (by have := HND.out; omega) Q6.out HSZ.out; rw [HSS.out.2.2] at HN5; refine HN5.mono ?_; rintro e u6 hp; have HJ := Lib.hid (HI6.out.read hp); obtain ⟨rfl, -, -⟩ := hp; clear HN5; have hA := HJ.out.m.cell; have hf := HJ.out.m.frozen; have hl := HJ.out.m.lt
      go_upto_region 23 with fail
      refine code_gen (fun W => Hid (DeI w W g s g7 a i (at_ + (txtB x.path).length + (Pl.num x.kind.toNat).length + (Pl.num x.mode.toNat).length + (txtB x.data).length + (Pl.num s1.toNat).length + (Pl.num s2.toNat).length + (Pl.num s3.toNat).length) tv sv gn gs #[.string x.path, .int .i64 x.kind, .string x.data, .int .i64 x.mode] #[.int .i64 s1, .int .i64 s2, .int .i64 s3])) (Lib.hid (by have h := HJ.out.setM 2 (.int .i64 s3); simpa using h)) ?_
      rintro W7 HI7; clear hA hf hl HJ HI6; obtain ⟨i0, hi0, hz0, hz1, hz2⟩ := info_parts infoNode; obtain ⟨j0, hj0, hq0, hq1, hq2⟩ := info_parts infoStm; obtain ⟨af, haf⟩ : ∃ af, (at_ + (txtB x.path).length + (Pl.num x.kind.toNat).length + (Pl.num x.mode.toNat).length + (txtB x.data).length + (Pl.num s1.toNat).length + (Pl.num s2.toNat).length + (Pl.num s3.toNat).length) = af := ⟨_, rfl⟩
      rw [haf] at HI7; have HQ7 := Q7.out; rw [haf] at HQ7; have HQ7 := Lib.hid HQ7; clear haf; have n9 := HI7.out.n.cell; have m9 := HI7.out.n.lt; have v9 := HI7.out.d.var.cell; have u9 := HI7.out.d.var.lt; have HW9 := Lib.hid (own_offk (k := []) HI7.out.d.tree ((Off.refl [] W7).alloc (.cells #[.string x.path, .int .i64 x.kind, .string x.data, .int .i64 x.mode] 30)) (by simp))
      go_upto_region 24 with (at_builtin; refine wpList_append_own _ rfl _ _ 22 rfl w.heap.size 30 i0 _ 4 48 Tryz.underlying22 hi0 hz0 hz1 hz2 rfl (by decide) _ i _ rfl HW9.out ⟨W7.heap.size, 0, none⟩ 1 1 [_, _, _, _] rfl rfl (nd_four_at (Blk.new W7 _ _)) (by simp [Value.oneCell']) (by unfold maxLen; omega) (by omega) (by have := HI7.out.d.off.size; simp; omega) ?_; intro tv' w12 hown12 hgrow12 _; obtain ⟨gv, cv, rfl⟩ := ownsRow_succ (k := i) hown12; have hv12 := HI7.out.d.grownT hgrow12; have hc12 := hv12.cell; have hf12 := hv12.frozen; have hl12 := hv12.lt)
      have hgw := (by assumption : (W7.alloc (.cells #[.string x.path, .int .i64 x.kind, .string x.data, .int .i64 x.mode] 30)).grownBy _ _); have how := (by assumption : World.ownsRow _ w.heap.size 30 4 _ (i + 1) _); have hv12 := HI7.out.d.grownT hgw
      have hm12 := (HI7.out.m.alloc (.cells #[.string x.path, .int .i64 x.kind, .string x.data, .int .i64 x.mode] 30)).grown hgw (fun e => (HI7.out.fn gs (by have e1 : tv.ownBlock = some gs := e.symm; rw [e1]; simp)).2 rfl)
      refine code_gen (fun W => Hid (∃ gv cv, DeR w W g s g7 a (i + 1) i af (.slice (some ⟨gv, 0, none⟩) (i + 1) cv) sv ∧ Blk W gs 93 #[.int .i64 s1, .int .i64 s2, .int .i64 s3])) (Lib.hid ⟨_, _, HI7.out.d.push HXY.out.1 how hgw, hm12.far (hm12.ne_ hv12 (by decide)) _⟩) ?_
      clear how hv12 hm12 hgw; rintro W8 HI8; clear n9 m9 v9 u9 HW9 HI7; obtain ⟨gv, cv, hcd, hcb⟩ := HI8.out; have HI8 := Lib.hid (And.intro hcd hcb); clear hcd hcb; have n9 := HI8.out.2.cell; have m9 := HI8.out.2.lt; have v9 := HI8.out.1.var.cell; have u9 := HI8.out.1.var.lt
      have HW9 := Lib.hid (own_offk (k := []) HI8.out.1.stm ((Off.refl [] W8).alloc (.cells #[.int .i64 s1, .int .i64 s2, .int .i64 s3] 93)) (by simp))
      go_wp2_with (at_builtin; refine wpList_append_own _ rfl _ _ 31 rfl w.heap.size 93 j0 _ 3 24 Tryz.underlying31 hj0 hq0 hq1 hq2 rfl (by decide) _ i _ rfl HW9.out ⟨W8.heap.size, 0, none⟩ 1 1 [_, _, _] rfl rfl (cell_three_at (Blk.new W8 _ _)) (by simp [Value.oneCell']) (by unfold maxLen; omega) (by omega) (by have := HI8.out.1.off.size; simp; omega) ?_; intro sv' w13 hown13 hgrow13 _; obtain ⟨gw, cw, rfl⟩ := ownsRow_succ (k := i) hown13; have hv13 := HI8.out.1.grownS hgrow13; have hc13 := hv13.cell; have hf13 := hv13.frozen; have hl13 := hv13.lt; have HP := Lib.hid (HI8.out.1.pushS HXY.out.2 hown13 hgrow13))
      have hfin := HQ7.out; rw [← HRR.out] at hfin; exact ⟨⟨i + 1, by congr 1, by omega, _, _, _, Lib.hid ⟨HP.out, hfin⟩⟩, by (try simp only [intOf]); omega⟩
    obtain rfl : i = n := by omega
    have hdn : itemsB ((itemsA a).drop i) = [] := by rw [List.drop_of_length_le (by rw [itemsA_len HOK.out, HN.out]; exact Nat.le_refl _)]; rfl
    rw [hdn] at HD; have hat : at_ = s.size := by have := HD.out.2.2; simpa using this
    have HD := Lib.hid HD.out.1; have htr := HD.out.tree; have hsr := HD.out.stm; rw [List.take_of_length_le (by rw [HN.out]; exact Nat.le_refl _)] at htr; rw [List.take_of_length_le (by rw [HOK.out.lens, HN.out]; exact Nat.le_refl _)] at hsr; have e1 := HN.out; have e2 := HOK.out.lens; obtain ⟨tp, ct, ht1, ht2, ht3, ht4, _⟩ := own_row (t := a.tree) (by rw [e1]; exact htr)
    obtain ⟨sp, cs, hs1, hs2, hs3, hs4⟩ := own_row3 (t := a.stamps) (by rw [e2, e1]; exact hsr); have HD2 := Lib.hid (show DeR w wr g s g7 a i i s.size (.slice tp a.tree.length ct) (.slice sp a.stamps.length cs) by rw [← ht1, ← hs1, ← hat]; exact HD.out)
    have HARC := Lib.hid (show ArcAt wr (.agg #[.string a.pair, .int .i64 a.serial, .slice tp a.tree.length ct, .slice sp a.stamps.length cs]) a from by
      rw [← ht1, ← hs1]; exact arc_of_own HOK.out (by rw [e1]; exact htr) (by rw [e2, e1]; exact hsr))
    clear ht1 ht2 ht3 ht4 hs1 hs2 hs3 hs4 htr hsr hdn HD e1 e2 hat
    go_wp2_with fail
    refine (rf3End g s _ HD2.out.rd).mono ?_
    rintro e w30 ⟨rfl, ho30⟩; have HD3 := Lib.hid (HD2.out.off_ ho30); have HA2 := Lib.hid (HARC.out.off ho30); clear HD2 HARC hrc hrl ho30; have hv := HD3.out.var.cell; have hl := HD3.out.var.lt
    go_wp2_with fail
    refine (rf9check_any _ a _ HA2.out (fun x hx => by have := HOK.out.node x hx; omega) (by have := HOK.out.len; omega) 0 (by unfold chkA; rw [HOK.out.ok]; rfl)).mono ?_
    rintro e w31 ⟨rfl, ho31⟩; have HD4 := Lib.hid (HD3.out.off_ ho31); clear hv hl ho31 HD3 HA2; have hv := HD4.out.var.cell; have hl := HD4.out.var.lt; have hr := HD4.out.res.cell; have hrf := HD4.out.res.frozen; have hrl := HD4.out.res.lt; unfold zArc at hr
    go_wp2_with fail
    have hB := (((HD4.out.res.set_ 0 (.string a.pair)).set_ 1 (.int .i64 a.serial)).set_ 2 (.slice tp a.tree.length ct)).set_ 3 (.slice sp a.stamps.length cs); unfold zArc at hB; simp only [List.setIfInBounds_toArray, List.set_cons_zero, List.set_cons_succ] at hB
    have HO := Lib.hid (show Off [] w ((((w31.setCell ⟨w.heap.size, 0, none⟩ (.string a.pair)).setCell ⟨w.heap.size, 1, none⟩ (.int .i64 a.serial)).setCell ⟨w.heap.size, 2, none⟩ (.slice tp a.tree.length ct)).setCell ⟨w.heap.size, 3, none⟩ (.slice sp a.stamps.length cs)) from
      (((HD4.out.off.setCell (.inl (Nat.le_refl _)) _).setCell (.inl (Nat.le_refl _)) _).setCell (.inl (Nat.le_refl _)) _).setCell (.inl (Nat.le_refl _)) _)
    have HAF := Lib.hid (show ArcAt ((((w31.setCell ⟨w.heap.size, 0, none⟩ (.string a.pair)).setCell ⟨w.heap.size, 1, none⟩ (.int .i64 a.serial)).setCell ⟨w.heap.size, 2, none⟩ (.slice tp a.tree.length ct)).setCell ⟨w.heap.size, 3, none⟩ (.slice sp a.stamps.length cs)) (.agg #[.string a.pair, .int .i64 a.serial, .slice tp a.tree.length ct, .slice sp a.stamps.length cs]) a by
      have ho : Off [w.heap.size] w31 ((((w31.setCell ⟨w.heap.size, 0, none⟩ (.string a.pair)).setCell ⟨w.heap.size, 1, none⟩ (.int .i64 a.serial)).setCell ⟨w.heap.size, 2, none⟩ (.slice tp a.tree.length ct)).setCell ⟨w.heap.size, 3, none⟩ (.slice sp a.stamps.length cs)) :=
        ((((Off.refl _ _).setCell (.inr (by simp)) _).setCell (.inr (by simp)) _).setCell (.inr (by simp)) _).setCell (.inr (by simp)) _
      have t1 := own_offk HD4.out.tree ho (own_neA HD4.out.tree HD4.out.res (by decide)); have t2 := own_offk HD4.out.stm ho (own_neA HD4.out.stm HD4.out.res (by decide)); have e1 := HN.out; have e2 := HOK.out.lens; rw [List.take_of_length_le (by rw [e1]; exact Nat.le_refl _)] at t1; rw [List.take_of_length_le (by rw [e2, e1]; exact Nat.le_refl _)] at t2
      exact arc_of_own HOK.out (by rw [e1] at t1 ⊢; exact t1) (by rw [e2, e1]; rw [e1, e2, e1] at t2; exact t2))
    have HFR := Lib.hid (show ∀ b ∈ arcB (.agg #[.string a.pair, .int .i64 a.serial, .slice tp a.tree.length ct, .slice sp a.stamps.length cs]), w.heap.size ≤ b from fun b hb => by
      rcases List.mem_append.1 hb with hb | hb
      · exact own_lo HD4.out.tree b hb
      exact own_lo HD4.out.stm b hb)
    clear hv hl hr hrf hrl; have hc := hB.cell; have hl := hB.lt; generalize (((w31.setCell ⟨w.heap.size, 0, none⟩ (.string a.pair)).setCell ⟨w.heap.size, 1, none⟩ (.int .i64 a.serial)).setCell ⟨w.heap.size, 2, none⟩ (.slice tp a.tree.length ct)).setCell ⟨w.heap.size, 3, none⟩ (.slice sp a.stamps.length cs) = W32 at hB hc hl HO HAF
    refine bodyPost_ret (v := .tuple #[.agg #[.string a.pair, .int .i64 a.serial, .slice tp a.tree.length ct, .slice sp a.stamps.length cs], .int .i64 0]) ?_ rfl ⟨_, rfl, HAF.out, HO.out, HFR.out⟩
    have hres : Tryz.f153.results = #[.cell 2 52, .tmp 3] := rfl
    simp only [results, hres]
    go_simp
end
section
open Go.RowKit Go.Op
def zA : Arc := ⟨⟨#[]⟩, 0, [], []⟩
theorem zA_at (w : World) : ArcAt w (.agg #[.string ⟨#[]⟩, .int .i64 0, .slice none 0 0, .slice none 0 0]) zA :=
  ⟨⟨none, 0, none, 0, rfl, fun h => absurd rfl h, fun h => absurd rfl h, Nat.le_refl _, by decide, Nat.le_refl _, by decide, fun _ => ⟨rfl, rfl⟩⟩, fun n hn => (by cases hn), by decide, by decide, by decide, fun n hn => (by cases hn)⟩
def TellS (s : ByteArray) (oa : Option Arc) : Prop := (oa = none ∧ s.size < 1099511627776 ∧ oneV (str s) = none) ∨ ∃ a, oa = some a ∧ ArcOk a ∧ s = encV a
def TellA (o : Option ByteArray) (oa : Option Arc) : Prop := (o = none ∧ oa = none) ∨ ∃ s, o = some s ∧ TellS s oa
def isZ (oa : Option Arc) : Int := if oa.isSome then 0 else 90
def DecAny (oa : Option Arc) (w : World) (e : Ending) (w' : World) : Prop := ∃ v, e = .returned (.tuple #[v, .int .i64 (isZ oa)]) ∧ ArcAt w' v (oa.getD zA) ∧ Off [] w w' ∧ ∀ b ∈ arcB v, w.heap.size ≤ b
theorem rfdecode_t (s : ByteArray) (oa : Option Arc) (w : World) (h : TellS s oa) : Calls Tryz.prog 153 #[.string s] w (DecAny oa w) := by
  rcases h with ⟨rfl, h1, h2⟩ | ⟨a, rfl, h1, rfl⟩
  · exact (rfdecode_bad s w h1 h2).mono fun e w' ⟨he, ho⟩ => ⟨_, he, zA_at _, ho, fun b hb => by cases hb⟩
  exact (rfdecode_ok a w h1).mono fun e w' ⟨v, he, h2, h3, h4⟩ => ⟨v, he, h2, h3, h4⟩
theorem decode_t (s : ByteArray) (oa : Option Arc) (w : World) (h : TellS s oa) (hT : Tabs w) : Calls Tryz.prog 155 #[.string s] w (DecAny oa w) := by
  rcases h with ⟨rfl, h1, h2⟩ | ⟨a, rfl, h1, rfl⟩
  · exact (decode_bad s w h1 h2).mono fun e w' ⟨he, ho⟩ => ⟨_, he, zA_at _, ho, fun b hb => by cases hb⟩
  exact (decode_ok a w h1 hT).mono fun e w' ⟨v, he, h2, h3, h4⟩ => ⟨v, he, h2, h3, h4⟩
theorem arc_tree {D : PDisk} {n : Nat} {o : Option ByteArray} (hf : Fine D n) (hs : Slim D) (h : HostL D o) : getB D.tree arcN = o.isSome ∧ ∀ nd ∈ D.tree, nd.path = arcN → nd.kind = 1 ∧ o = some nd.data := by
  have hok := tree_ok hf hs
  rcases h.arc with ⟨rfl, h2⟩ | ⟨s, m, rfl, h2, h3, h4⟩
  · have hno : ∀ nd ∈ D.tree, nd.path ≠ arcN := fun nd hnd e => by
      obtain ⟨x, hx, m, hm, rfl⟩ := node_tree hf.ok hf.good.names hnd; have : hasN D.names arcN = true := (hasN_iff _ _).2 ⟨x, hx, e⟩
      rw [h2] at this; cases this
    refine ⟨?_, fun nd hnd e => absurd e (hno nd hnd)⟩
    unfold getB; rw [hok, Bool.true_and]; exact List.any_eq_false.2 fun nd hnd => by simpa using hno nd hnd
  have hh : hasN D.names arcN = true := by
    cases hh : hasN D.names arcN
    · rw [at_none_of hh] at h2; cases h2
    rfl
  have key : ∀ nd ∈ D.tree, nd.path = arcN → nd = { m.node with path := arcN } := fun nd hnd e => by
    obtain ⟨x, hx, m2, hm, rfl⟩ := node_tree hf.ok hf.good.names hnd; have e : x.1 = arcN := e
    have hl := lookN_mem hf.good.names hx; unfold PDisk.at_ at h2; rw [← e, hl, hm] at h2; injection h2 with h2
    rw [h2, e]
  refine ⟨?_, fun nd hnd e => by rw [key nd hnd e]; exact ⟨h3, by rw [← h4]⟩⟩
  obtain ⟨x, hx, e⟩ := (hasN_iff _ _).1 hh; obtain ⟨m2, hm2, hin⟩ := tree_node hf.ok hf.good.names hx; unfold getB; rw [hok, Bool.true_and]; exact List.any_eq_true.2 ⟨_, hin, by simpa using e⟩
theorem Row.offk {w w' : World} {k : List Nat} {p : Option Addr} {t : List Node} (h : Row w p t) (ho : Off k w w') (hb : ∀ a, p = some a → a.block ∉ k) : Row w' p t := fun hne => by
  obtain ⟨a, rfl, hl, hn⟩ := h hne; have hk := hb a rfl; refine ⟨a, rfl, Nat.lt_of_lt_of_le hl ho.size, fun i n hi => ?_⟩; have h1 := hn i n hi; have hl' : (a.add (i * 4)).block < w.heap.size := by rw [add_block]; exact hl
  have hk' : (a.add (i * 4)).block ∉ k := by rw [add_block]; exact hk
  exact ⟨(ho.cell hl' hk').trans h1.path, (ho.cell (p := ⟨(a.add (i * 4)).block, (a.add (i * 4)).off + 1, none⟩) hl' hk').trans h1.kind, (ho.cell (p := ⟨(a.add (i * 4)).block, (a.add (i * 4)).off + 2, none⟩) hl' hk').trans h1.data, (ho.cell (p := ⟨(a.add (i * 4)).block, (a.add (i * 4)).off + 3, none⟩) hl' hk').trans h1.mode⟩
theorem SRow3.offk {w w' : World} {k : List Nat} {p : Option Addr} {t : List (Int × Int × Int)} (h : SRow3 w p t) (ho : Off k w w') (hb : ∀ a, p = some a → a.block ∉ k) : SRow3 w' p t := fun hne => by
  obtain ⟨a, rfl, hl, hn⟩ := h hne; have hk := hb a rfl; refine ⟨a, rfl, Nat.lt_of_lt_of_le hl ho.size, fun i n hi => ?_⟩; have h1 := hn i n hi; have hl' : (a.add (i * 3)).block < w.heap.size := by rw [add_block]; exact hl
  have hk' : (a.add (i * 3)).block ∉ k := by rw [add_block]; exact hk
  exact ⟨(ho.cell hl' hk').trans h1.i0, (ho.cell (p := ⟨(a.add (i * 3)).block, (a.add (i * 3)).off + 1, none⟩) hl' hk').trans h1.i1, (ho.cell (p := ⟨(a.add (i * 3)).block, (a.add (i * 3)).off + 2, none⟩) hl' hk').trans h1.i2⟩
theorem ArcAt.offk {w w' : World} {k : List Nat} {v : Value} {a : Arc} (h : ArcAt w v a) (ho : Off k w w') (hb : ∀ b ∈ arcB v, b ∉ k) : ArcAt w' v a := by
  obtain ⟨⟨tp, c, sp, d, rfl, h2, h3, h4⟩, h5, h6, h7, h8, h9⟩ := h; refine ⟨⟨tp, c, sp, d, rfl, h2.offk ho (fun x e => hb _ ?_), h3.offk ho (fun x e => hb _ ?_), h4⟩, h5, h6, h7, h8, h9⟩
  · subst e
    exact List.mem_append_left _ (by simp [Value.ownBlock])
  subst e; exact List.mem_append_right _ (by simp [Value.ownBlock])
def putA (w : World) (g : Nat) (a b c d : Value) : World := (((w.setCell ⟨g, 0, none⟩ a).setCell ⟨g, 1, none⟩ b).setCell ⟨g, 2, none⟩ c).setCell ⟨g, 3, none⟩ d
theorem putA_off (w : World) (g : Nat) (a b c d : Value) : Off [g] w (putA w g a b c d) := ((((Off.refl _ _).setCell (.inr (by simp)) _).setCell (.inr (by simp)) _).setCell (.inr (by simp)) _).setCell (.inr (by simp)) _
theorem putA_since {w0 w : World} (h : Off [] w0 w) {g : Nat} (hg : w0.heap.size ≤ g) (a b c d : Value) : Off [] w0 (putA w g a b c d) := (((h.setCell (.inl hg) _).setCell (.inl hg) _).setCell (.inl hg) _).setCell (.inl hg) _
theorem putA_blk {w : World} {g : Nat} {x y z u : Value} (h : Blk w g 52 #[x, y, z, u]) (a b c d : Value) : Blk (putA w g a b c d) g 52 #[a, b, c, d] := by
  have := (((h.set_ 0 a).set_ 1 b).set_ 2 c).set_ 3 d; unfold putA
  simpa using this
def LoadTo (oa : Option Arc) (w : World) (e : Ending) (w' : World) : Prop := ∃ v, e = .returned (.tuple #[v, .bool oa.isSome]) ∧ ArcAt w' v (oa.getD zA) ∧ Off [] w w' ∧ ∀ b ∈ arcB v, w.heap.size ≤ b
set_option maxRecDepth 100000 in
set_option maxHeartbeats 8000000 in
theorem rload20_any (p : Option Addr) (t : List Node) (n c : Nat) (o : Option ByteArray) (oa : Option Arc) (w : World) (hR : Row w p t) (hn : t.length = n) (hbig : n ≤ 1099511627776) (hF : Fits1 t)
    (hg : getB t arcN = o.isSome) (hu : ∀ nd ∈ t, nd.path = arcN → nd.kind = 1 ∧ o = some nd.data) (hT : TellA o oa) :
    Calls Tryz.prog 98 #[.slice p n c] w (LoadTo oa w) := by
  have HG := Lib.hid (fun W (ho : Off [] w W) => rget6_any p t n c arcN W (hR.off ho) hn hbig hF); have HU := Lib.hid (And.intro hg (And.intro hu hT)); clear hR hn hF hg hu hT; unfold arcN at HG
  go_enter Tryz.func98, Tryz.ntmps98
  go_wp2_with fail
  refine (HG.out _ ((Off.refl _ _).alloc _)).mono ?_
  rintro e w1 ⟨nd, rfl, hm, ho1⟩; have hm : getB t arcN = true → nd ∈ t ∧ nd.path = arcN := hm
  have hgb : getB t ⟨#[46, 104, 97, 119, 115, 101, 114, 47, 97, 114, 99, 104, 105, 118, 101]⟩ = o.isSome := HU.out.1
  rw [hgb]; unfold Node.val; have HA := Lib.hid ((((Blk.new w 52 #[.string ⟨#[]⟩, .int .i64 0, .slice none 0 0, .slice none 0 0]).off ho1 (by simp))).alloc (.cells #[.string nd.path, .int .i64 nd.kind, .string nd.data, .int .i64 nd.mode] 30)); have HN := Lib.hid (Blk.new w1 30 #[.string nd.path, .int .i64 nd.kind, .string nd.data, .int .i64 nd.mode])
  have HO := Lib.hid (show Off [] w (w1.alloc (.cells #[.string nd.path, .int .i64 nd.kind, .string nd.data, .int .i64 nd.mode] 30)) from (((Off.refl _ _).alloc _).trans_nil ho1).alloc _); have HM := Lib.hid hm; clear ho1 hm hgb HG
  go_upto_region 2 with fail
  refine code_gen (fun W => Hid (Off [] w W ∧ Blk W w.heap.size 52 #[.string ⟨#[]⟩, .int .i64 0, .slice none 0 0, .slice none 0 0] ∧ Blk W w1.heap.size 30 #[.string nd.path, .int .i64 nd.kind, .string nd.data, .int .i64 nd.mode])) (Lib.hid ⟨HO.out, HA.out, HN.out⟩) ?_
  rintro W2 HW; clear HA HN HO; obtain ⟨gn, hgn⟩ : ∃ gn, w1.heap.size = gn := ⟨_, rfl⟩
  rw [hgn] at HW; rw [hgn]; clear hgn; have hc := HW.out.2.1.cell; have hf := HW.out.2.1.frozen; have hl := HW.out.2.1.lt; have nc := HW.out.2.2.cell; have nl := HW.out.2.2.lt; have hres : Tryz.f98.results = #[.cell 2 52, .tmp 3] := rfl
  cases ho : o with
  | none =>
    rw [ho] at HU; have hoa : oa = none := by
      rcases HU.out.2.2 with ⟨_, h⟩ | ⟨s, h, _⟩
      · exact h
      cases h
    subst hoa
    go_wp2_with fail
    refine bodyPost_ret (v := .tuple #[.agg #[.string ⟨#[]⟩, .int .i64 0, .slice none 0 0, .slice none 0 0], .bool false]) ?_ rfl ⟨_, rfl, zA_at _, putA_since HW.out.1 (Nat.le_refl _) _ _ _ _, fun b hb => by cases hb⟩
    simp only [results, hres]
    go_simp
  | some s =>
    rw [ho] at HU; have hgt := HU.out.1; obtain ⟨hm1, hm2⟩ := HM.out hgt; obtain ⟨hk, hd⟩ := HU.out.2.1 nd hm1 hm2; injection hd with hd
    have hT : TellS nd.data oa := by
      rcases HU.out.2.2 with ⟨h, _⟩ | ⟨s', h, h2⟩
      · cases h
      injection h with h; rw [← hd, h]; exact h2
    have hqk : (nd.kind == 1) = true := by rw [hk]; rfl
    have hqk2 : (nd.kind != 1) = false := by rw [bne, hqk]; rfl
    have HT := Lib.hid hT; clear hgt hm1 hm2 hk hd hT HU HM
    go_wp2_with fail
    refine (rfdecode_t nd.data oa _ HT.out).mono ?_
    rintro e w4 ⟨v, rfl, hA, ho4, hfr⟩; have HB := Lib.hid (HW.out.2.1.off ho4 (by simp)); have HO := Lib.hid (HW.out.1.trans_nil ho4); have HL := Lib.hid (show ∀ b ∈ arcB v, b ∉ [w.heap.size] from fun b hb hm => by
      rw [List.mem_singleton] at hm; have := hfr b hb; have := HW.out.2.1.lt; omega)
    have HL2 := Lib.hid (show ∀ b ∈ arcB v, w.heap.size ≤ b from fun b hb => Nat.le_trans HW.out.1.size (hfr b hb)); obtain ⟨⟨tp, ca, sp, cb, rfl, _⟩, _⟩ := id hA; have HA := Lib.hid hA; have hz : (isZ oa == 0) = oa.isSome := by cases oa <;> rfl
    clear hc hf hl nc nl ho4 hfr hA hqk hqk2 HW HT; have hc := HB.out.cell; have hf := HB.out.frozen; have hl := HB.out.lt
    go_wp2_with fail
    refine bodyPost_ret (v := .tuple #[.agg #[.string (oa.getD zA).pair, .int .i64 (oa.getD zA).serial, .slice tp (oa.getD zA).tree.length ca, .slice sp (oa.getD zA).stamps.length cb], .bool oa.isSome]) ?_ rfl ⟨_, rfl, (HA.out.offk (putA_off w4 w.heap.size _ _ _ _) HL.out).off ((Off.refl [] _).alloc _), (putA_since HO.out (Nat.le_refl _) _ _ _ _).alloc _, HL2.out⟩
    simp only [results, hres]
    go_simp
end
end Go.Proofs.YtoicjadioiomkaaGreatDoor
