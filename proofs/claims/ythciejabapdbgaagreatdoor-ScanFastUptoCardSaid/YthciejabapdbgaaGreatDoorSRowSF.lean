/- ScanFast answers true where what it reads is of bulk at most 1048576, and leaves its arguments as they are; the tied card. (Printed by gen_rowx.py.) Conditions: the row's own: that bound; the two listed tables of unicode/utf8 hold what the program's text lays. -/
import Derived.Test.YthciejabapdbgaaGreatDoorSRowUpF
import Derived.Test.YthciejabapdbgaaGreatDoorSRowUpR
import Derived.Test.YthciejabapdbgaaGreatDoorKp
set_option linter.unusedVariables false
set_option linter.unusedSimpArgs false
namespace Go.Proofs.YthciejabapdbgaaGreatDoor.scanFast
open Go.ChangeShapes Go.WideShapes Go.ChangeAt Go.RowKit Go.Deep
set_option maxRecDepth 100000 in
theorem contract (H : Type) (enc : TypeId × Value → H) (W : World) (base : Nat) (args : Array Value) (ds gs : List (DataW H)) (before : List MemPlace)
    (hval : ∀ (j : Nat) t v, Tryz.f4.params[j]? = some t → args[j]? = some v → Value.okWide Tryz.prog W .any base t v)
    (hW : DataW.Whole enc Tryz.prog Tryz.f4.params.toList Rows.scanFastSpec.vars false W args.toList ds gs before) (hL : laidMet Tryz.prog Rows.scanFastRow.laid W) (hk : Rows.uptoSmall H (ds ++ gs) = true) :
    Calls Tryz.prog 4 args W fun e W' => ∃ v, e = .returned v ∧ Rows.scanFastSpec.post enc Tryz.prog Tryz.f4 false true false false W args v W' := by
  have hW' := hW; obtain ⟨p, q, hA0, hV, rfl, hfz, hnd⟩ := hW; have hA : DataW.TrodAll enc Tryz.prog W 0 (fun _ => true) true Tryz.f4.params.toList args.toList ds p := hA0
  rw [Tryz.params4] at hA hval; obtain ⟨v0, v1, v2, d0, d1, d2, p0, p1, p2, rfl, rfl, rfl, h0, h1, h2⟩ := trodAll_three hA; obtain ⟨rfl, rfl⟩ := trodVars_none hV; clear hA0; simp only [List.append_nil] at hW' hk; have hlt : ∀ x ∈ p0 ++ p1 ++ p2, x.block < W.heap.size := fun x hx => by simpa using hW'.lt x hx
  have hb := bulks.bound hk; have key : Calls Tryz.prog 4 #[v0, v1, v2] W fun e w' => e = .returned (.bool true) ∧ Off [] W w' := by
    obtain ⟨a0, len0, capv0, rfl⟩ := okWide_slice Tryz.underlying22 (hval 0 22 v0 rfl rfl); obtain ⟨fuel0, hf0⟩ := h0; obtain ⟨pp0, t0, cap0, hcs0, hR0, hc0, hcm0, hm0, hF0, hn0⟩ := open_nodes_up hf0 (by have := bulks.part_le (d := d0) (l := [d0, d1, d2]) (by simp); dsimp only; omega); simp only [Value.cells, List.cons.injEq, Value.slice.injEq, and_true] at hcs0; obtain ⟨rfl, rfl, rfl⟩ := hcs0
    obtain ⟨a1, len1, capv1, rfl⟩ := okWide_slice Tryz.underlying71 (hval 1 71 v1 rfl rfl); obtain ⟨fuel1, hf1⟩ := h1; obtain ⟨pp1, t1, cap1, hcs1, hR1, hc1, hcm1, hm1, hz1⟩ := open_changes_up hf1 (by have := bulks.part_le (d := d1) (l := [d0, d1, d2]) (by simp); dsimp only; omega); simp only [Value.cells, List.cons.injEq, Value.slice.injEq, and_true] at hcs1; obtain ⟨rfl, rfl, rfl⟩ := hcs1
    obtain ⟨cs2, rfl, -⟩ := okWide_struct Tryz.underlying26 (hval 2 26 v2 rfl rfl); obtain ⟨fuel2, hf2⟩ := h2; obtain ⟨ap2, fs2, fc2, ep2, es2, ec2, hcs2, hFR2, hnf2, hpa2, hER2, hco2, hvl2⟩ := open_weather11_up hf2 (by have := bulks.part_le (d := d2) (l := [d0, d1, d2]) (by simp); dsimp only; omega); obtain ⟨l2⟩ := cs2; have hcs2 : l2 = _ := hcs2
    subst hcs2; exact sfast_any _ t0 _ _ _ t1 _ _ _ _ fs2 es2 _ _ _ _ W hR0 rfl hc0 hcm0 hF0 hm0 hR1 rfl hm1 hz1 hFR2 rfl (by omega) hpa2 hER2 rfl (by have := len_cost es2; omega) (fun e he => ⟨by have := (hvl2 e he).1.1; omega, (hvl2 e he).1.2⟩) hco2 (tabs_of hL)
  refine key.mono fun e W' ⟨he, ho⟩ => ?_
  subst he; have hb := ho.below; refine ⟨_, rfl, post_of_below (pa := p0 ++ (p1 ++ p2)) (pv := []) hW' (fun _ _ _ => trodAll_mk1 (shut_bool Tryz.underlying4 _)) (fun sp hsp => ?_) (fun _ _ => rfl) (by simp) hb (ok_one (by kernel_rfl) rfl (okWide_bool_mk Tryz.underlying4 _))⟩
  exact trodAll_mk3 (WideElems.Trod_stays laidOut (by kernel_rfl) (of_decide_eq_true (by kernel_rfl)) h0 (fun x hx => hb.same (hlt x (List.mem_append_left _ (List.mem_append_left _ hx)))) (fun x hx => hsp x (List.mem_append_left _ (List.mem_append_left _ hx))))
    (WideElems.Trod_stays laidOut (by kernel_rfl) (of_decide_eq_true (by kernel_rfl)) h1 (fun x hx => hb.same (hlt x (List.mem_append_left _ (List.mem_append_right _ hx)))) (fun x hx => hsp x (List.mem_append_left _ (List.mem_append_right _ hx))))
    (WideElems.Trod_stays laidOut (by kernel_rfl) (of_decide_eq_true (by kernel_rfl)) h2 (fun x hx => hb.same (hlt x (List.mem_append_right _ hx))) (fun x hx => hsp x (List.mem_append_right _ hx)))
set_option maxRecDepth 100000 in
theorem witness_row (os : Os) {H : Type} (enc : TypeId × Value → H) :
    (Rows.OpenSpec.upto Rows.scanFastSpec).preRow enc Tryz.prog Tryz.f4 Rows.scanFastUptoRow.domain false Rows.scanFastUptoRow.laid ((laidWorld os).forCall (fun _ _ => 0) ⟨#[], #[.slice none 0 0, .slice none 0 0, .agg #[.slice none 0 0, .slice none 0 0]], []⟩).memory #[.slice none 0 0, .slice none 0 0, .agg #[.slice none 0 0, .slice none 0 0]] := by
  have hw : (DataW.whole enc Tryz.prog ((laidWorld os).forCall (fun _ _ => 0) ⟨#[], #[.slice none 0 0, .slice none 0 0, .agg #[.slice none 0 0, .slice none 0 0]], []⟩).memory Tryz.f4.params.toList Rows.scanFastSpec.vars false (#[.slice none 0 0, .slice none 0 0, .agg #[.slice none 0 0, .slice none 0 0]] : Array Value).toList 8).map (fun x => (x.1, x.2.1)) =
      some ([.nil, .nil, .agg [.nil, .nil]], []) := by kernel_rfl
  obtain ⟨⟨x1, x2, x3⟩, hx, hx1⟩ := Option.map_eq_some_iff.1 hw; simp only [Prod.mk.injEq] at hx1; obtain ⟨rfl, rfl⟩ := hx1; exact OpenSpec.preRow_of_cond 8 hx (by kernel_rfl) (fun k hk => by cases hk; kernel_rfl) (by kernel_rfl) (laid_met os _)
set_option maxRecDepth 100000 in
theorem lifted (os : Os) (started : os.Started) (H : Type) (enc : TypeId × Value → H) (F : Stop.Interp) :
    ReturnsInHanded {} Tryz.checked os 4 .any ((Rows.OpenSpec.upto Rows.scanFastSpec).preRow enc Tryz.prog Tryz.f4 Rows.scanFastUptoRow.domain false Rows.scanFastUptoRow.laid) (((Rows.OpenSpec.upto Rows.scanFastSpec).at F).post enc Tryz.prog Tryz.f4 false true false false) := by
  refine returnsInHanded_of_row (C := Tryz.checked) (s := Rows.OpenSpec.upto Rows.scanFastSpec) own started (by kernel_rfl) Tryz.func4
    (witness_row_atRef (enc := enc) (C := Tryz.checked) false (laidWorld os) #[.slice none 0 0, .slice none 0 0, .agg #[.slice none 0 0, .slice none 0 0]] rfl (by kernel_rfl) (by kernel_rfl) (by kernel_rfl) (witness_row os enc)) ?_
  intro W base args ds gs before hval hW _ hcond _ hL _ _
  exact contract H enc W base args ds gs before hval hW hL (hcond _ rfl)
set_option maxRecDepth 100000 in
set_option maxHeartbeats 16000000 in
theorem closed : joinedFacts Tryz.pinned.checked.prog 4 Tryz.f4 (Rows.OpenSpec.upto Rows.scanFastSpec).bare Rows.scanFastUptoRow = true := by
  unfold joinedFacts
  repeat' (with_reducible refine Bool.and_eq_true_iff.2 ⟨?_, ?_⟩)
  all_goals (as_aux_lemma => kernel_rfl)
set_option maxRecDepth 100000 in
theorem said : Rows.ScanFastUptoSaid :=
  OpenClaim.holds_of_cond 4 Tryz.f4 rfl rfl rfl rfl rfl rfl rfl ⟨rfl, rfl, rfl, rfl, rfl⟩ rfl rfl rfl rfl rfl (by kernel_rfl) Tryz.func4 closed
    (of_decide_eq_true (by kernel_rfl)) (by unfold Func.isWrapper; first | (rw [if_pos (by decide +kernel)]; kernel_rfl) | (rw [if_neg (by decide +kernel)]; exact ⟨rfl, rfl⟩))
    (fun os started H enc _ F => by rw [OpenClaim.pre_eq_preRow]; exact lifted os started H enc F)
set_option maxRecDepth 100000 in
theorem plain (f : FuncId) (fn : Func) (hf : Tryz.pinned.checked.prog.funcNamed "hawser/hawserlaw11.ScanFast" = some f) (hfn : Tryz.pinned.checked.prog.funcs[f]? = some fn) :
    true = Tryz.pinned.checked.prog.looks [] ∧ ∀ (j : Nat) t, fn.params[j]? = some t → Tryz.pinned.checked.prog.wantsStandIn t = false := by
  obtain rfl : f = 4 := Option.some.inj ((show Tryz.prog.funcNamed "hawser/hawserlaw11.ScanFast" = some 4 by kernel_rfl).symm.trans hf) |>.symm
  obtain rfl : fn = Tryz.f4 := (Option.some.inj (Tryz.func4.symm.trans hfn)).symm
  refine ⟨by kernel_rfl, fun j t ht => ?_⟩
  rw [Tryz.params4] at ht; have hm := Array.mem_of_getElem? ht; simp only [List.mem_toArray, List.mem_cons, List.not_mem_nil, or_false] at hm
  rcases hm with rfl | rfl | rfl
  · exact (show Tryz.prog.wantsStandIn 22 = false by kernel_rfl)
  · exact (show Tryz.prog.wantsStandIn 71 = false by kernel_rfl)
  exact (show Tryz.prog.wantsStandIn 26 = false by kernel_rfl)
set_option maxRecDepth 100000 in
theorem card : Rows.ScanFastUptoCardSaid :=
  Claim7.holds_tied_plain_at .later [] _ _ _ _ said (fun _ h => by cases h) (by kernel_rfl) (fun _ h => by cases h) scanFastUpto_row_tie rfl ⟨rfl, rfl⟩ (by kernel_rfl) rfl plain (by kernel_rfl)
end Go.Proofs.YthciejabapdbgaaGreatDoor.scanFast
#print axioms Go.Proofs.YthciejabapdbgaaGreatDoor.scanFast.card
