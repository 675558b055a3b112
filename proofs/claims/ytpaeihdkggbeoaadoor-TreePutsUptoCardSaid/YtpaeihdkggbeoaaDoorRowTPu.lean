/- TreePuts answers true wherever what it reads is of bulk at most 1048576, and leaves its arguments as they are; the tied card. Conditions: the row's own: that bound, and that the two listed tables of unicode/utf8 hold what the program's text lays. -/
import Derived.Test.YtpaeihdkggbeoaaDoorRowUp
import Derived.Test.YtpaeihdkggbeoaaDoorTPuts
namespace Go.Proofs.YtpaeihdkggbeoaaDoor.treePuts
open Go.ChangeShapes Go.WideShapes Go.ChangeAt Go.RowKit Go.Deep

set_option maxRecDepth 100000 in
theorem contract (H : Type) (enc : TypeId × Value → H) (W : World) (base : Nat) (args : Array Value) (ds gs : List (DataW H)) (before : List MemPlace)
    (hval : ∀ (j : Nat) t v, Tryd.f5.params[j]? = some t → args[j]? = some v → Value.okWide Tryd.prog W .any base t v)
    (hW : DataW.Whole enc Tryd.prog Tryd.f5.params.toList Rows.treePutsSpec.vars false W args.toList ds gs before) (hL : laidMet Tryd.prog Rows.treePutsRow.laid W) (hk : Rows.uptoSmall H (ds ++ gs) = true) :
    Calls Tryd.prog 5 args W fun e W' => ∃ v, e = .returned v ∧ Rows.treePutsSpec.post enc Tryd.prog Tryd.f5 false true false false W args v W' := by
  have hW' := hW
  obtain ⟨p, q, hA0, hV, rfl, hfz, hnd⟩ := hW
  have hA : DataW.TrodAll enc Tryd.prog W 0 (fun _ => true) true Tryd.f5.params.toList args.toList ds p := hA0
  rw [Tryd.params5] at hA hval
  obtain ⟨v0, v1, v2, d0, d1, d2, p0, p1, p2, rfl, rfl, rfl, h0, h1, h2⟩ := trodAll_three hA
  obtain ⟨rfl, rfl⟩ := trodVars_none hV
  clear hA0
  simp only [List.append_nil] at hW' hk
  have hlt : ∀ x ∈ p0 ++ p1 ++ p2, x.block < W.heap.size := fun x hx => by simpa using hW'.lt x hx
  have hb := bulks.bound hk
  have key : Calls Tryd.prog 5 #[v0, v1, v2] W fun e w' => e = .returned (.bool true) ∧ Off [] W w' := by
    obtain ⟨a0, len0, capv0, rfl⟩ := okWide_slice Tryd.underlying22 (hval 0 22 v0 rfl rfl)
    obtain ⟨fuel0, hf0⟩ := h0
    have hb0 := bulks.part_le (d := d0) (l := [d0, d1, d2]) (by simp)
    obtain ⟨pp0, t0, cap0, hcs0, hR0, hc0, hcm0, hm0, hF0, hn0⟩ := open_nodes_up hf0 (by dsimp only; omega)
    simp only [Value.cells, List.cons.injEq, Value.slice.injEq, and_true] at hcs0
    obtain ⟨rfl, rfl, rfl⟩ := hcs0
    obtain ⟨s1, rfl⟩ := okWide_string Tryd.underlying9 (hval 1 9 v1 rfl rfl)
    obtain ⟨fuel1, hf1⟩ := h1
    have hb1 := bulks.part_le (d := d1) (l := [d0, d1, d2]) (by simp)
    obtain ⟨z1, hcs1, hx1, -⟩ := DataW.trod_string Tryd.underlying9 hf1
    simp only [Value.cells, List.cons.injEq, Value.string.injEq, and_true] at hcs1
    subst hcs1
    have hs1 : s1.size ≤ 1048576 := by
      have hd1 : d1 = .lit (.string s1.data.toList) := congrArg Prod.fst hx1
      have := str_bulk (H := H) s1
      rw [← hd1] at this
      omega
    obtain ⟨a2, len2, capv2, rfl⟩ := okWide_slice Tryd.underlying22 (hval 2 22 v2 rfl rfl)
    obtain ⟨fuel2, hf2⟩ := h2
    have hb2 := bulks.part_le (d := d2) (l := [d0, d1, d2]) (by simp)
    obtain ⟨pp2, t2, cap2, hcs2, hR2, hc2, hcm2, hm2, hF2, hn2⟩ := open_nodes_up hf2 (by dsimp only; omega)
    simp only [Value.cells, List.cons.injEq, Value.slice.injEq, and_true] at hcs2
    obtain ⟨rfl, rfl, rfl⟩ := hcs2
    exact puts_any _ _ t0 t2 _ _ _ _ s1 W hR0 hR2 rfl rfl hc0 hc2 hcm0 hcm2 hn0 hn2 hm0 hm2 hF0 hF2 hs1 (tabs_of hL)
  refine key.mono fun e W' ⟨he, ho⟩ => ?_
  subst he
  have hb := ho.below
  refine ⟨_, rfl, post_of_below (pa := p0 ++ (p1 ++ p2)) (pv := []) hW' (fun _ _ _ => trodAll_mk1 (shut_bool Tryd.underlying4 _)) (fun sp hsp => ?_) (fun _ _ => rfl) (by simp) hb (ok_one (by kernel_rfl) rfl (okWide_bool_mk Tryd.underlying4 _))⟩
  exact trodAll_mk3 (WideElems.Trod_stays laidOut (by kernel_rfl) (of_decide_eq_true (by kernel_rfl)) h0 (fun x hx => hb.same (hlt x (List.mem_append_left _ (List.mem_append_left _ hx)))) (fun x hx => hsp x (List.mem_append_left _ (List.mem_append_left _ hx))))
    (WideElems.Trod_stays laidOut (by kernel_rfl) (of_decide_eq_true (by kernel_rfl)) h1 (fun x hx => hb.same (hlt x (List.mem_append_left _ (List.mem_append_right _ hx)))) (fun x hx => hsp x (List.mem_append_left _ (List.mem_append_right _ hx))))
    (WideElems.Trod_stays laidOut (by kernel_rfl) (of_decide_eq_true (by kernel_rfl)) h2 (fun x hx => hb.same (hlt x (List.mem_append_right _ hx))) (fun x hx => hsp x (List.mem_append_right _ hx)))

set_option maxRecDepth 100000 in
theorem witness_row (os : Os) {H : Type} (enc : TypeId × Value → H) :
    (Rows.OpenSpec.upto Rows.treePutsSpec).preRow enc Tryd.prog Tryd.f5 Rows.treePutsUptoRow.domain false Rows.treePutsUptoRow.laid ((laidWorld os).forCall (fun _ _ => 0) ⟨#[], #[.slice none 0 0, .string ⟨#[]⟩, .slice none 0 0], []⟩).memory #[.slice none 0 0, .string ⟨#[]⟩, .slice none 0 0] := by
  have hw : (DataW.whole enc Tryd.prog ((laidWorld os).forCall (fun _ _ => 0) ⟨#[], #[.slice none 0 0, .string ⟨#[]⟩, .slice none 0 0], []⟩).memory Tryd.f5.params.toList Rows.treePutsSpec.vars false #[Value.slice none 0 0, .string ⟨#[]⟩, .slice none 0 0].toList 8).map (fun x => (x.1, x.2.1)) =
      some ([.nil, .lit (.string []), .nil], []) := by kernel_rfl
  obtain ⟨⟨x1, x2, x3⟩, hx, hx1⟩ := Option.map_eq_some_iff.1 hw
  simp only [Prod.mk.injEq] at hx1
  obtain ⟨rfl, rfl⟩ := hx1
  exact OpenSpec.preRow_of_cond 8 hx (by kernel_rfl) (fun k hk => by cases hk; kernel_rfl) (by kernel_rfl) (laid_met os _)

set_option maxRecDepth 100000 in
theorem lifted (os : Os) (started : os.Started) (H : Type) (enc : TypeId × Value → H) (F : Stop.Interp) :
    ReturnsInHanded {} Tryd.checked os 5 .any ((Rows.OpenSpec.upto Rows.treePutsSpec).preRow enc Tryd.prog Tryd.f5 Rows.treePutsUptoRow.domain false Rows.treePutsUptoRow.laid) (((Rows.OpenSpec.upto Rows.treePutsSpec).at F).post enc Tryd.prog Tryd.f5 false true false false) := by
  refine returnsInHanded_of_row (C := Tryd.checked) (s := Rows.OpenSpec.upto Rows.treePutsSpec) own started (by kernel_rfl) Tryd.func5
    (witness_row_atRef (enc := enc) (C := Tryd.checked) false (laidWorld os) #[.slice none 0 0, .string ⟨#[]⟩, .slice none 0 0] rfl (by kernel_rfl) (by kernel_rfl) (by kernel_rfl) (witness_row os enc)) ?_
  intro W base args ds gs before hval hW _ hcond _ hL _ _
  exact contract H enc W base args ds gs before hval hW hL (hcond _ rfl)

set_option maxRecDepth 100000 in
theorem said : Rows.TreePutsUptoSaid :=
  OpenClaim.holds_of_cond 5 Tryd.f5 rfl rfl rfl rfl rfl rfl rfl ⟨rfl, rfl, rfl, rfl, rfl⟩ rfl rfl rfl rfl rfl (by kernel_rfl) Tryd.func5 (by kernel_rfl)
    (of_decide_eq_true (by kernel_rfl)) (by unfold Func.isWrapper; first | (rw [if_pos (by decide +kernel)]; kernel_rfl) | (rw [if_neg (by decide +kernel)]; exact ⟨rfl, rfl⟩))
    (fun os started H enc _ F => by rw [OpenClaim.pre_eq_preRow]; exact lifted os started H enc F)

set_option maxRecDepth 100000 in
theorem plain (f : FuncId) (fn : Func) (hf : Tryd.pinned.checked.prog.funcNamed "hawser/hawserlaw06.TreePuts" = some f) (hfn : Tryd.pinned.checked.prog.funcs[f]? = some fn) :
    false = Tryd.pinned.checked.prog.looks [] ∧ ∀ (j : Nat) t, fn.params[j]? = some t → Tryd.pinned.checked.prog.wantsStandIn t = false := by
  obtain rfl : f = 5 := Option.some.inj ((show Tryd.prog.funcNamed "hawser/hawserlaw06.TreePuts" = some 5 by kernel_rfl).symm.trans hf) |>.symm
  obtain rfl : fn = Tryd.f5 := (Option.some.inj (Tryd.func5.symm.trans hfn)).symm
  refine ⟨by kernel_rfl, fun j t ht => ?_⟩
  rw [Tryd.params5] at ht
  have hm := Array.mem_of_getElem? ht
  simp only [List.mem_toArray, List.mem_cons, List.not_mem_nil, or_false] at hm
  rcases hm with rfl | rfl | rfl
  · exact (show Tryd.prog.wantsStandIn 22 = false by kernel_rfl)
  · exact (show Tryd.prog.wantsStandIn 9 = false by kernel_rfl)
  · exact (show Tryd.prog.wantsStandIn 22 = false by kernel_rfl)

set_option maxRecDepth 100000 in
theorem card : Rows.TreePutsUptoCardSaid :=
  Claim7.holds_tied_plain_at .later [] _ _ _ _ said (fun _ h => by cases h) (by kernel_rfl) (fun _ h => by cases h) treePutsUpto_row_tie rfl ⟨rfl, rfl⟩ (by kernel_rfl) rfl plain (by kernel_rfl)
end Go.Proofs.YtpaeihdkggbeoaaDoor.treePuts
#print axioms Go.Proofs.YtpaeihdkggbeoaaDoor.treePuts.card
