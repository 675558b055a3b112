/- CommitDamaged answers true at every input, and leaves its arguments as they are; the tied card. Conditions: the row's own: the two listed tables of unicode/utf8 hold what the program's text lays. -/
import Derived.Test.YtoicjadioiomkaaGreatDoorSRowArc
import Derived.Test.YtoicjadioiomkaaGreatDoorJp
set_option linter.unusedVariables false
set_option linter.unusedSimpArgs false
namespace Go.Proofs.YtoicjadioiomkaaGreatDoor.commitDamaged
open Go.ChangeShapes Go.WideShapes Go.ChangeAt Go.RowKit Go.Deep
set_option maxRecDepth 100000 in
theorem contract (H : Type) (enc : TypeId × Value → H) (W : World) (base : Nat) (args : Array Value) (ds gs : List (DataW H)) (before : List MemPlace)
    (hval : ∀ (j : Nat) t v, Tryz.f7.params[j]? = some t → args[j]? = some v → Value.okWide Tryz.prog W .any base t v)
    (hW : DataW.Whole enc Tryz.prog Tryz.f7.params.toList Rows.commitDamagedSpec.vars false W args.toList ds gs before) (hL : laidMet Tryz.prog Rows.commitDamagedRow.laid W) (hRE : (DataW.weightsEach Tryz.prog (Tryz.f7.params.toList ++ (OpenSpec.ofChange Rows.commitDamagedSpec).bare.plain.varTypes Tryz.prog) (ds ++ gs)).all (· ≤ reachBytes) = true) :
    Calls Tryz.prog 7 args W fun e W' => ∃ v, e = .returned v ∧ Rows.commitDamagedSpec.post enc Tryz.prog Tryz.f7 false true false false W args v W' := by
  have hW' := hW; obtain ⟨p, q, hA0, hV, rfl, hfz, hnd⟩ := hW; have hA : DataW.TrodAll enc Tryz.prog W 0 (fun _ => true) true Tryz.f7.params.toList args.toList ds p := hA0
  rw [Tryz.params7] at hA hval; rw [Tryz.params7] at hRE; obtain ⟨v0, v1, v2, d0, d1, d2, p0, p1, p2, rfl, rfl, rfl, h0, h1, h2⟩ := trodAll_three hA; obtain ⟨rfl, rfl⟩ := trodVars_none hV; clear hA0; simp only [List.append_nil] at hW'; have hlt : ∀ x ∈ p0 ++ p1 ++ p2, x.block < W.heap.size := fun x hx => by simpa using hW'.lt x hx
  have key : Calls Tryz.prog 7 #[v0, v1, v2] W fun e w' => e = .returned (.bool true) ∧ Off [] W w' := by
    obtain ⟨cs0, rfl, -⟩ := okWide_struct Tryz.underlying88 (hval 0 88 v0 rfl rfl); obtain ⟨fuel0, hf0⟩ := h0; obtain ⟨xa0, xb0, y0, y1, y2, y3, z0, z1, z2, z3, hcs0, hxa0, hxb0⟩ := open_two hf0 (each_reach hRE (j := 0) rfl rfl); obtain ⟨l0⟩ := cs0; have hcs0 : l0 = _ := hcs0
    subst hcs0; obtain ⟨k1, rfl⟩ := okWide_int Tryz.underlying3 (hval 1 3 v1 rfl rfl); obtain ⟨k2, rfl⟩ := okWide_int Tryz.underlying5 (hval 2 5 v2 rfl rfl); have hk2 := lit_wf8 (by obtain ⟨fuel2, hf2⟩ := h2; obtain ⟨_, e2, -, g2⟩ := DataW.trod_int Tryz.underlying5 hf2; simp only [Value.cells, List.cons.injEq, Value.int.injEq, and_true, true_and] at e2; subst e2; exact g2)
    exact cdamaged_any xa0 xb0 _ _ _ _ _ _ _ _ k1 k2 W hxa0 hxb0 (tabs_of hL) hk2
  refine key.mono fun e W' ⟨he, ho⟩ => ?_
  subst he; have hb := ho.below; refine ⟨_, rfl, post_of_below (pa := p0 ++ (p1 ++ p2)) (pv := []) hW' (fun _ _ _ => trodAll_mk1 (shut_bool Tryz.underlying4 _)) (fun sp hsp => ?_) (fun _ _ => rfl) (by simp) hb (ok_one (by kernel_rfl) rfl (okWide_bool_mk Tryz.underlying4 _))⟩
  exact trodAll_mk3 (WideElems.Trod_stays laidOut (by kernel_rfl) (of_decide_eq_true (by kernel_rfl)) h0 (fun x hx => hb.same (hlt x (List.mem_append_left _ (List.mem_append_left _ hx)))) (fun x hx => hsp x (List.mem_append_left _ (List.mem_append_left _ hx))))
    (WideElems.Trod_stays laidOut (by kernel_rfl) (of_decide_eq_true (by kernel_rfl)) h1 (fun x hx => hb.same (hlt x (List.mem_append_left _ (List.mem_append_right _ hx)))) (fun x hx => hsp x (List.mem_append_left _ (List.mem_append_right _ hx))))
    (WideElems.Trod_stays laidOut (by kernel_rfl) (of_decide_eq_true (by kernel_rfl)) h2 (fun x hx => hb.same (hlt x (List.mem_append_right _ hx))) (fun x hx => hsp x (List.mem_append_right _ hx)))
set_option maxRecDepth 100000 in
theorem witness_row (os : Os) {H : Type} (enc : TypeId × Value → H) :
    (OpenSpec.ofChange Rows.commitDamagedSpec).preRow enc Tryz.prog Tryz.f7 Rows.commitDamagedRow.domain false Rows.commitDamagedRow.laid ((laidWorld os).forCall (fun _ _ => 0) ⟨#[], #[.agg #[.string ⟨#[]⟩, .int .i64 0, .slice none 0 0, .slice none 0 0, .string ⟨#[]⟩, .int .i64 0, .slice none 0 0, .slice none 0 0], .int .i64 0, .int .u8 0], []⟩).memory #[.agg #[.string ⟨#[]⟩, .int .i64 0, .slice none 0 0, .slice none 0 0, .string ⟨#[]⟩, .int .i64 0, .slice none 0 0, .slice none 0 0], .int .i64 0, .int .u8 0] := by
  have hw : (DataW.whole enc Tryz.prog ((laidWorld os).forCall (fun _ _ => 0) ⟨#[], #[.agg #[.string ⟨#[]⟩, .int .i64 0, .slice none 0 0, .slice none 0 0, .string ⟨#[]⟩, .int .i64 0, .slice none 0 0, .slice none 0 0], .int .i64 0, .int .u8 0], []⟩).memory Tryz.f7.params.toList Rows.commitDamagedSpec.vars false (#[.agg #[.string ⟨#[]⟩, .int .i64 0, .slice none 0 0, .slice none 0 0, .string ⟨#[]⟩, .int .i64 0, .slice none 0 0, .slice none 0 0], .int .i64 0, .int .u8 0] : Array Value).toList 8).map (fun x => (x.1, x.2.1)) =
      some ([.agg [.agg [.lit (.string []), .lit (.int .i64 0), .nil, .nil], .agg [.lit (.string []), .lit (.int .i64 0), .nil, .nil]], .lit (.int .i64 0), .lit (.int .u8 0)], []) := by kernel_rfl
  obtain ⟨⟨x1, x2, x3⟩, hx, hx1⟩ := Option.map_eq_some_iff.1 hw; simp only [Prod.mk.injEq] at hx1; obtain ⟨rfl, rfl⟩ := hx1; exact OpenSpec.preRow_of_cond 8 hx (by kernel_rfl) (fun k hk => by cases hk) (by kernel_rfl) (laid_met os _)
set_option maxRecDepth 100000 in
theorem lifted (os : Os) (started : os.Started) (H : Type) (enc : TypeId × Value → H) (F : Stop.Interp) :
    ReturnsInHanded {} Tryz.checked os 7 .any ((OpenSpec.ofChange Rows.commitDamagedSpec).preRow enc Tryz.prog Tryz.f7 Rows.commitDamagedRow.domain false Rows.commitDamagedRow.laid) (((OpenSpec.ofChange Rows.commitDamagedSpec).at F).post enc Tryz.prog Tryz.f7 false true false false) := by
  refine returnsInHanded_of_row (C := Tryz.checked) (s := OpenSpec.ofChange Rows.commitDamagedSpec) own started (by kernel_rfl) Tryz.func7
    (witness_row_atRef (enc := enc) (C := Tryz.checked) false (laidWorld os) #[.agg #[.string ⟨#[]⟩, .int .i64 0, .slice none 0 0, .slice none 0 0, .string ⟨#[]⟩, .int .i64 0, .slice none 0 0, .slice none 0 0], .int .i64 0, .int .u8 0] rfl (by kernel_rfl) (by kernel_rfl) (by kernel_rfl) (witness_row os enc)) ?_
  intro W base args ds gs before hval hW _ _ hRE hL _ _
  exact contract H enc W base args ds gs before hval hW hL hRE
set_option maxRecDepth 100000 in
set_option maxHeartbeats 16000000 in
theorem closed : joinedFacts Tryz.pinned.checked.prog 7 Tryz.f7 (OpenSpec.ofChange Rows.commitDamagedSpec).bare Rows.commitDamagedRow = true := by
  unfold joinedFacts
  repeat' (with_reducible refine Bool.and_eq_true_iff.2 ⟨?_, ?_⟩)
  all_goals (as_aux_lemma => kernel_rfl)
set_option maxRecDepth 100000 in
theorem said : Rows.CommitDamagedSaid :=
  OpenClaim.holds_of_cond 7 Tryz.f7 rfl rfl rfl rfl rfl rfl rfl ⟨rfl, rfl, rfl, rfl, rfl⟩ rfl rfl rfl rfl rfl (by kernel_rfl) Tryz.func7 closed
    (of_decide_eq_true (by kernel_rfl)) (by unfold Func.isWrapper; first | (rw [if_pos (by decide +kernel)]; kernel_rfl) | (rw [if_neg (by decide +kernel)]; exact ⟨rfl, rfl⟩))
    (fun os started H enc _ F => by rw [OpenClaim.pre_eq_preRow]; exact lifted os started H enc F)
set_option maxRecDepth 100000 in
theorem plain (f : FuncId) (fn : Func) (hf : Tryz.pinned.checked.prog.funcNamed "hawser/hawserlaw20.CommitDamaged" = some f) (hfn : Tryz.pinned.checked.prog.funcs[f]? = some fn) :
    true = Tryz.pinned.checked.prog.looks [] ∧ ∀ (j : Nat) t, fn.params[j]? = some t → Tryz.pinned.checked.prog.wantsStandIn t = false := by
  obtain rfl : f = 7 := Option.some.inj ((show Tryz.prog.funcNamed "hawser/hawserlaw20.CommitDamaged" = some 7 by kernel_rfl).symm.trans hf) |>.symm
  obtain rfl : fn = Tryz.f7 := (Option.some.inj (Tryz.func7.symm.trans hfn)).symm
  refine ⟨by kernel_rfl, fun j t ht => ?_⟩
  rw [Tryz.params7] at ht; have hm := Array.mem_of_getElem? ht; simp only [List.mem_toArray, List.mem_cons, List.not_mem_nil, or_false] at hm
  rcases hm with rfl | rfl | rfl
  · exact (show Tryz.prog.wantsStandIn 88 = false by kernel_rfl)
  · exact (show Tryz.prog.wantsStandIn 3 = false by kernel_rfl)
  exact (show Tryz.prog.wantsStandIn 5 = false by kernel_rfl)
set_option maxRecDepth 100000 in
theorem card : Rows.CommitDamagedCardSaid :=
  Claim7.holds_tied_plain_at .later [] _ _ _ _ said (fun _ h => by cases h) (by kernel_rfl) (fun _ h => by cases h) commitDamaged_row_tie rfl ⟨rfl, rfl⟩ (by kernel_rfl) rfl plain (by kernel_rfl)
end Go.Proofs.YtoicjadioiomkaaGreatDoor.commitDamaged
#print axioms Go.Proofs.YtoicjadioiomkaaGreatDoor.commitDamaged.card
