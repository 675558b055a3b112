/- MoveSays answers true at every input and leaves its arguments as they are. Conditions: none. -/
import Derived.Test.YtpaeihdkggbeoaaRows
import Derived.Test.YtpaeihdkggbeoaaMSays
import Derived.WalkKit
import Derived.ProofKit
import Derived.OpenShut
import Derived.Deep.Slices
import Derived.Deep.Fields
namespace Go.Proofs.Ytpaeihdkggbeoaa.moveSays
open Go.ChangeShapes Go.WideShapes Go.ChangeAt Go.RowKit Go.Deep
section
variable {H : Type} {enc : TypeId × Value → H} {P : Program} {w : World} {base : Nat} {spare : Nat → Bool} {held : Bool}
theorem open_slice_fields {t e : TypeId} {fs : Array Field} {fuel : Nat} {cs : List Value} {x : DataW H × List MemPlace} (ht : P.underlying t = some (.slice e)) (he : P.underlying e = some (.struct fs))
    (hone : oneCellFields P fs = true) (hC : P.cellsOf e = fs.size) (h : DataW.trod enc P w base spare held fuel t cs = some x) :
    (cs = [.slice none 0 0] ∧ x = (.nil, [])) ∨
    ∃ (a : Addr) (len cap m : Nat) (D : Nat → DataW H) (Pl : Nat → List MemPlace), cs = [.slice (some a) len cap] ∧ base ≤ a.block ∧ len ≤ cap ∧ cap ≤ maxLen ∧ m = (if spare a.block then cap else len) ∧
      x = (.slice ((List.range len).map D) ((List.range (m - len)).map fun j => D (len + j)), MemPlace.row a (m * fs.size) ++ (List.range m).flatMap Pl) ∧
      ∀ i, i < m → ∃ (ys : List (DataW H × List MemPlace)) (n : Nat), D i = .agg (ys.map (·.1)) ∧ Pl i = ys.flatMap (·.2) ∧ ys.length = fs.size ∧
        ∀ (j : Nat) (f : Field), fs[j]? = some f → ∃ (v : Value) (y : DataW H × List MemPlace), w.cell? (a.add (i * fs.size + j)) = some v ∧ ys[j]? = some y ∧ DataW.trod enc P w base spare held n f.type [v] = some y := by
  rcases open_slice ht h with h0 | ⟨a, len, cap, m, n, D, Pl, hcs, hb, hl, hm, hmm, hx, hi⟩
  · exact .inl h0
  · refine .inr ⟨a, len, cap, m, D, Pl, hcs, hb, hl, hm, hmm, by rw [hC] at hx; exact hx, fun i him => ?_⟩
    obtain ⟨cs', hc, ht'⟩ := hi i him
    rw [hC] at hc
    obtain ⟨ys, n', hn', hy, hlen, hyl, hf⟩ := DataW.trod_struct he ht'
    obtain ⟨_, hcl, hat⟩ := World.cells?_some hc
    simp only [Prod.mk.injEq] at hy
    refine ⟨ys, n', hy.1, hy.2, hyl, fun j f hj => ?_⟩
    obtain ⟨ho, hk⟩ := hone_of hone j f hj
    have hjl : j < fs.size := (Array.getElem?_eq_some_iff.1 hj).1
    have hcell := hat j hjl
    have hv : cs'[j]? = some (cs'[j]'(by omega)) := List.getElem?_eq_getElem (by omega)
    have h1 := hf j f hj
    rw [ho, hk] at h1
    have hone' : (cs'.drop j).take 1 = [cs'[j]'(by omega)] := by
      rw [List.drop_eq_getElem_cons (by omega)]
      rfl
    rw [hone'] at h1
    have hys : ys[j]? = some (ys[j]'(by omega)) := List.getElem?_eq_getElem (by omega)
    refine ⟨_, _, ?_, hys, h1.trans hys⟩
    rw [← Go.Deep.add_add, hcell, hv]
end
section
variable {H : Type} {enc : TypeId × Value → H} {P : Program}
theorem post_of_below {f : Func} {s : ChangeSpec} {apart fresh handsOn again : Bool} {W W' : World} {args : Array Value} {v : Value} {ds gs : List (DataW H)} {before pa pv : List MemPlace}
    (hW : DataW.Whole enc P f.params.toList s.vars apart W args.toList ds gs before)
    (hres : ∀ (b : Nat) (sp : Nat → Bool) (hd : Bool), DataW.TrodAll enc P W' b sp hd f.resultTypes.toList (v.resultList f.resultTypes.size) (s.fn H (ds ++ gs)).results [])
    (hargs : ∀ sp : Nat → Bool, (∀ p ∈ before, sp p.block = true) → DataW.TrodAll enc P W' 0 sp true f.params.toList args.toList (s.fn H (ds ++ gs)).args pa)
    (hvars : ∀ sp : Nat → Bool, (∀ p ∈ before, sp p.block = true) → DataW.TrodVars enc P W' sp s.vars (s.fn H (ds ++ gs)).vars pv)
    (hps : before = pa ++ pv) (hb : Below W.heap.size W W')
    (hok : ∀ (j : Nat) (t : TypeId) (r : Value), f.resultTypes[j]? = some t → (v.resultList f.resultTypes.size)[j]? = some r → Value.okWide P W' .any 0 t r) :
    s.post enc P f apart fresh handsOn again W args v W' := by
  have hlt : ∀ p ∈ before, p.block < W.heap.size := fun p hp => hW.lt p hp
  have hold : ∀ p ∈ before, (fun b => decide (b < W.heap.size)) p.block = true := fun p hp => by simpa using hlt p hp
  refine ⟨ds, gs, before, [], pa, pv, hW, hres _ _ _, hargs _ hold, hvars _ hold, World.keptBut_mono (fun p hp => ⟨hp, ?_⟩) (hb.frame (· ∈ before)), fun _ => ?_⟩
  · rw [hps, List.mem_append] at hp
    exact Or.inr hp
  · obtain ⟨_, _, _, _, _, hz, hn⟩ := hW
    refine ⟨hok, _, _, ([] ++ pa) ++ pv, ⟨[] ++ pa, pv, trodAll_append (hargs _ (fun _ _ => rfl)) (hres _ _ _), hvars _ (fun _ _ => rfl), rfl, ?_, ?_⟩, ?_⟩
    · intro b off hp
      have hin : MemPlace.cell b off ∈ before := by rw [hps]; simpa using hp
      rw [hb.frozen (hlt _ hin)]
      exact hz b off hin
    · intro ha
      have := hn ha
      rw [hps] at this
      simpa using this
    · intro p hp _
      rw [hps]
      simpa using hp
end

theorem own : ownKnob Try.prog.godebug = none := by kernel_rfl
theorem laidOut : laidOutB Try.prog = true := by kernel_rfl

section
variable {H : Type} {enc : TypeId × Value → H} {w : World} {base : Nat} {spare : Nat → Bool} {held : Bool}
set_option maxRecDepth 100000 in
/-- one direction of the lines, read -/
theorem open_way {n : Nat} {cs : List Value} {x : DataW H × List MemPlace} (h : DataW.trod enc Try.prog w base spare held n 23 cs = some x) :
    ∃ (c f : Int) (b : UInt8), cs = [.int .i64 c, .int .i64 f, .int .u8 b.toNat] ∧ (way0 c f b).Fit := by
  obtain ⟨xs, m, _, _, hlen, _, hf⟩ := DataW.trod_struct Try.underlying23 h
  have hC : Try.prog.cellsOf 23 = 3 := by kernel_rfl
  rw [hC] at hlen
  have hC3 : Try.prog.cellsOf 3 = 1 := by kernel_rfl
  have hC5 : Try.prog.cellsOf 5 = 1 := by kernel_rfl
  match cs, hlen with
  | [v0, v1, v2], _ =>
    have h0 := hf 0 _ rfl
    have h1 := hf 1 _ rfl
    have h2 := hf 2 _ rfl
    have l0 : xs[0]? = some (xs[0]'(by simp_all)) := List.getElem?_eq_getElem _
    have l1 : xs[1]? = some (xs[1]'(by simp_all)) := List.getElem?_eq_getElem _
    have l2 : xs[2]? = some (xs[2]'(by simp_all)) := List.getElem?_eq_getElem _
    rw [l0] at h0; rw [l1] at h1; rw [l2] at h2
    simp [hC3, hC5] at h0 h1 h2
    obtain ⟨c, e0, -, w0⟩ := DataW.trod_int Try.underlying3 h0
    obtain ⟨f, e1, -, w1⟩ := DataW.trod_int Try.underlying3 h1
    obtain ⟨b, e2, -, w2⟩ := DataW.trod_int Try.underlying5 h2
    simp only [List.cons.injEq, and_true] at e0 e1 e2
    have k0 : -9223372036854775808 ≤ c ∧ c ≤ 9223372036854775807 := by simpa [Lit.wf, IntKind.min, IntKind.max, IntKind.signed, IntKind.bits] using w0
    have k1 : -9223372036854775808 ≤ f ∧ f ≤ 9223372036854775807 := by simpa [Lit.wf, IntKind.min, IntKind.max, IntKind.signed, IntKind.bits] using w1
    have k2 : 0 ≤ b ∧ b ≤ 255 := by simpa [Lit.wf, IntKind.min, IntKind.max, IntKind.signed, IntKind.bits] using w2
    have eb : (((UInt8.ofNat b.toNat).toNat : Nat) : Int) = b := by
      rw [UInt8.toNat_ofNat']
      have : b.toNat % 2 ^ 8 = b.toNat := Nat.mod_eq_of_lt (by omega)
      rw [this]; omega
    exact ⟨c, f, UInt8.ofNat b.toNat, by rw [e0, e1, e2, eb], ⟨k0.1, Int.lt_add_one_of_le k0.2, k1.1, Int.lt_add_one_of_le k1.2⟩⟩
set_option maxRecDepth 100000 in
theorem open_lines {r : Reach} {b0 : Nat} {v : Value} {d : DataW H} {p : List MemPlace} (hv : Value.okWide Try.prog w r b0 25 v) (h : DataW.Trod enc Try.prog w base spare held 25 v d p) :
    ∃ (c f : Int) (b : UInt8) (c' f' : Int) (b' : UInt8), v = .agg #[.int .i64 c, .int .i64 f, .int .u8 b.toNat, .int .i64 c', .int .i64 f', .int .u8 b'.toNat] ∧ (way0 c f b).Fit ∧ (way0 c' f' b').Fit := by
  obtain ⟨cs, rfl, hsz⟩ := okWide_struct Try.underlying25 hv
  obtain ⟨fuel, hf0⟩ := h
  obtain ⟨xs, m, _, _, hlen, _, hf⟩ := DataW.trod_struct Try.underlying25 hf0
  have hC : Try.prog.cellsOf 25 = 6 := by kernel_rfl
  have hC3 : Try.prog.cellsOf 23 = 3 := by kernel_rfl
  rw [hC] at hsz hlen
  obtain ⟨cs⟩ := cs
  match cs, hsz with
  | [v0, v1, v2, v3, v4, v5], _ =>
    have h0 := hf 0 _ rfl
    have h1 := hf 1 _ rfl
    have l0 : xs[0]? = some (xs[0]'(by simp_all)) := List.getElem?_eq_getElem _
    have l1 : xs[1]? = some (xs[1]'(by simp_all)) := List.getElem?_eq_getElem _
    rw [l0] at h0; rw [l1] at h1
    simp [hC3, Value.cells] at h0 h1
    obtain ⟨c, f, b, e0, f0⟩ := open_way h0
    obtain ⟨c', f', b', e1, f1⟩ := open_way h1
    simp only [List.cons.injEq, and_true] at e0 e1
    exact ⟨c, f, b, c', f', b', by rw [e0.1, e0.2.1, e0.2.2, e1.1, e1.2.1, e1.2.2], f0, f1⟩
end

set_option maxRecDepth 100000 in
theorem lifted (os : Os) (started : os.Started) (H : Type) (enc : TypeId × Value → H) :
    ReturnsInHanded {} Try.checked os 3 .any (Rows.moveSaysSpec.pre6 enc Try.prog Try.f3 Rows.moveSaysRow.domain false) (Rows.moveSaysSpec.post enc Try.prog Try.f3 false true false false) := by
  refine returnsInHanded_of_change (C := Try.checked) own started (by kernel_rfl) Try.func3
    (ChangeSpec.witness6 (enc := enc) (C := Try.checked) false ⟨#[], #[.agg #[.int .i64 0, .int .i64 0, .int .u8 0, .int .i64 0, .int .i64 0, .int .u8 0], .slice none 0 0], []⟩ 8 (by kernel_rfl) (by kernel_rfl) (by kernel_rfl) (by kernel_rfl)) ?_
  intro W base args ds gs before hval0 hW _ _
  have hval : ∀ (j : Nat) t v, Try.f3.params[j]? = some t → args[j]? = some v → Value.okWide Try.prog W .any base t v := hval0
  have hW' := hW
  obtain ⟨p, q, hA0, hV, rfl, hfz, hnd⟩ := hW
  have hA : DataW.TrodAll enc Try.prog W 0 (fun _ => true) true Try.f3.params.toList args.toList ds p := hA0
  rw [Try.params3] at hA hval
  obtain ⟨v0, v1, d0, d1, p0, p1, rfl, rfl, rfl, h0, h1⟩ := trodAll_two hA
  obtain ⟨rfl, rfl⟩ := trodVars_none hV
  clear hA0 hval0
  simp only [List.append_nil] at hW'
  have hlt : ∀ x ∈ p0 ++ p1, x.block < W.heap.size := fun x hx => by simpa using hW'.lt x hx
  have key : Calls Try.prog 3 #[v0, v1] W fun e w' => e = .returned (.bool true) ∧ Off [] W w' := by
    obtain ⟨c, f, b, c', f', b', rfl, hf0, hf1⟩ := open_lines (hval 0 25 v0 rfl rfl) h0
    obtain ⟨a0, len, cap, rfl⟩ := okWide_slice Try.underlying26 (hval 1 26 v1 rfl rfl)
    obtain ⟨fuel, hf⟩ := h1
    rcases open_slice_fields Try.underlying26 Try.underlying36 (by kernel_rfl) (by kernel_rfl) hf with ⟨hcs, _⟩ | ⟨a, len', cap', m, D, Pl, hcs, _, hl, hm, hmm, _, hi⟩
    · simp only [Value.cells, List.cons.injEq, Value.slice.injEq, and_true] at hcs
      obtain ⟨rfl, rfl, rfl⟩ := hcs
      exact moveSays_nil c f c' f' b b' W hf0 hf1
    · simp only [Value.cells, List.cons.injEq, Value.slice.injEq, and_true] at hcs
      obtain ⟨rfl, rfl, rfl⟩ := hcs
      refine moveSays_some c f c' f' b b' a len cap W hf0 hf1 (by omega) (fun i hik => ?_)
      obtain ⟨ys, n, _, _, _, hfld⟩ := hi i (by simp at hmm; omega)
      obtain ⟨v, y, hc, _, ht⟩ := hfld 0 _ rfl
      obtain ⟨v', y', hc', _, ht'⟩ := hfld 1 _ rfl
      obtain ⟨bk, e0, -⟩ := DataW.trod_bool Try.underlying4 ht
      obtain ⟨tx, e1, -, -⟩ := DataW.trod_string Try.underlying9 ht'
      simp only [List.cons.injEq, and_true] at e0 e1
      subst e0; subst e1
      exact ⟨bk, tx, by simpa using hc, by simpa using hc'⟩
  refine key.mono fun e W' ⟨he, ho⟩ => ?_
  subst he
  have hb := ho.below
  refine ⟨_, rfl, post_of_below (pa := p0 ++ p1) (pv := []) hW' (fun _ _ _ => trodAll_mk1 (shut_bool Try.underlying4 _)) (fun sp hsp => ?_) (fun _ _ => rfl) (by simp) hb (ok_one (by kernel_rfl) rfl (okWide_bool_mk Try.underlying4 _))⟩
  exact trodAll_mk2 (WideElems.Trod_stays laidOut (by kernel_rfl) (of_decide_eq_true (by kernel_rfl)) h0 (fun x hx => hb.same (hlt x (by simp [hx]))) (fun x hx => hsp x (by simp [hx])))
    (WideElems.Trod_stays laidOut (by kernel_rfl) (of_decide_eq_true (by kernel_rfl)) h1 (fun x hx => hb.same (hlt x (by simp [hx]))) (fun x hx => hsp x (by simp [hx])))

theorem holds : Rows.MoveSaysSaid :=
  OpenClaim.holds_of_wide 3 Try.f3 rfl rfl rfl rfl rfl rfl rfl ⟨rfl, rfl, rfl, rfl, rfl⟩ rfl rfl rfl rfl rfl (by kernel_rfl) Try.func3 (by kernel_rfl)
    (of_decide_eq_true (by kernel_rfl)) (by unfold Func.isWrapper; first | (rw [if_pos (by decide +kernel)]; kernel_rfl) | (rw [if_neg (by decide +kernel)]; exact ⟨rfl, rfl⟩))
    (fun os started H enc _ => lifted os started H enc)
end Go.Proofs.Ytpaeihdkggbeoaa.moveSays
#print axioms Go.Proofs.Ytpaeihdkggbeoaa.moveSays.holds
