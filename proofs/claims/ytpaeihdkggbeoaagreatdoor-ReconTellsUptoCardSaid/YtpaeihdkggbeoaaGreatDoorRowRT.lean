/- ReconTells answers true wherever what it reads is of bulk at most 1048576, and leaves its argument as it is; the tied card. Conditions: the row's own: that bound, and that the two listed tables of unicode/utf8 hold what the program's text lays. -/
import Derived.Test.YtpaeihdkggbeoaaGreatDoorRowFull
import Derived.Test.YtpaeihdkggbeoaaGreatDoorRecT
import Derived.Lib.SmallJoins
namespace Go.Proofs.YtpaeihdkggbeoaaGreatDoor.bulks

theorem one_le {H : Type} (d : DataW H) : 1 ≤ Rows.uptoBulk d := by
  cases d with
  | lit l => cases l <;> simp [Rows.uptoBulk]
  | nil => simp [Rows.uptoBulk]
  | ptr d => simp [Rows.uptoBulk]
  | slice elems spare => simp [Rows.uptoBulk]
  | agg parts => simp [Rows.uptoBulk]
  | iface t d => simp [Rows.uptoBulk]
  | map entries => simp [Rows.uptoBulk]
  | held h => simp [Rows.uptoBulk]

/-- a part's bulk is at most the whole's -/
theorem part_le {H : Type} {d : DataW H} {l : List (DataW H)} (h : d ∈ l) : Rows.uptoBulk d ≤ Rows.uptoBulkAll l := by
  induction l with
  | nil => cases h
  | cons x r ih =>
    simp only [Rows.uptoBulkAll]
    cases List.mem_cons.1 h with
    | inl e => subst e; omega
    | inr e => have := ih e; omega

theorem append {H : Type} (l r : List (DataW H)) : Rows.uptoBulkAll (l ++ r) = Rows.uptoBulkAll l + Rows.uptoBulkAll r := by
  induction l with
  | nil => simp [Rows.uptoBulkAll]
  | cons x l ih => simp only [List.cons_append, Rows.uptoBulkAll, ih]; omega

/-- so many values at the most -/
theorem length_le {H : Type} (l : List (DataW H)) : l.length ≤ Rows.uptoBulkAll l := by
  induction l with
  | nil => simp [Rows.uptoBulkAll]
  | cons x r ih => have := one_le x; simp only [Rows.uptoBulkAll, List.length_cons]; omega

/-- a slice's places, and what they hold -/
theorem slice_le {H : Type} (elems spare : List (DataW H)) : elems.length + spare.length + 1 ≤ Rows.uptoBulk (.slice elems spare) := by
  have h1 := length_le elems
  have h2 := length_le spare
  simp only [Rows.uptoBulk]
  omega
theorem slice_elems {H : Type} (elems spare : List (DataW H)) : Rows.uptoBulkAll elems + 1 ≤ Rows.uptoBulk (.slice elems spare) := by
  simp only [Rows.uptoBulk]
  omega

/-- a string's letters -/
theorem string_eq {H : Type} (bytes : List UInt8) : Rows.uptoBulk (DataW.lit (H := H) (.string bytes)) = bytes.length + 1 := by
  simp [Rows.uptoBulk]

/-- THE BOUND, as the builder hands it over ('hk') -/
theorem bound {H : Type} {l : List (DataW H)} (hk : Rows.uptoSmall H l = true) : Rows.uptoBulkAll l ≤ 1048576 := by
  simpa [Rows.uptoSmall] using hk

/-- ROOM: a slice of n elements of b bytes, grown by append: below the 2^48 bytes that append, make and a Builder bear. Here n up to 2^21, b up to 4,096: put your own numbers. -/
theorem room {n b : Nat} (hn : n ≤ 2097152) (hb : b ≤ 4096) : (n + n / 4 + 192) * b ≤ 281474976710656 := by
  have h : (n + n / 4 + 192) * b ≤ 2621632 * 4096 := Nat.mul_le_mul (by omega) hb
  omega

end Go.Proofs.YtpaeihdkggbeoaaGreatDoor.bulks
namespace Go.Proofs.YtpaeihdkggbeoaaGreatDoor
open Go.ChangeShapes Go.WideShapes Go.ChangeAt Go.RowKit Go.Deep

theorem str_bulk {H : Type} (s : ByteArray) : s.size + 1 ≤ Rows.uptoBulk (DataW.lit (H := H) (.string s.data.toList)) := by
  rw [bulks.string_eq, Array.length_toList]; exact Nat.le_refl _
/-- an argument that is a list of nodes: what is asked of it where the bulk is bounded -/
theorem open_nodes_up {H : Type} {enc : TypeId × Value → H} {w : World} {base : Nat} {spare : Nat → Bool} {held : Bool} {fuel : Nat} {cs : List Value} {x : DataW H × List MemPlace} (h : DataW.trod enc Tryz.prog w base spare held fuel 22 cs = some x) (hk : Rows.uptoBulk x.1 ≤ 1048576) :
    ∃ (p : Option Addr) (t : List Node) (cap : Nat), cs = [.slice p t.length cap] ∧ Row w p t ∧ t.length ≤ cap ∧ cap ≤ maxLen ∧ t.length ≤ 1048576 ∧ Fits1 t ∧ (p = none → t = [] ∧ cap = 0) := by
  rcases open_slice_fields Tryz.underlying22 Tryz.underlying40 (by kernel_rfl) (by kernel_rfl) h with ⟨hcs, _⟩ | ⟨a, len, cap, m, D, Pl, hcs, _, hl, hm, hmm, hx, hi⟩
  · exact ⟨none, [], 0, hcs, fun h => absurd rfl h, Nat.le_refl _, by decide, by decide, (fun n hn => by cases hn), fun _ => ⟨rfl, rfl⟩⟩
  · have hlm : len ≤ m := by rw [hmm]; split <;> omega
    rw [hx] at hk
    have hel := bulks.slice_elems ((List.range len).map D) ((List.range (m - len)).map fun j => D (len + j))
    have hle := bulks.slice_le ((List.range len).map D) ((List.range (m - len)).map fun j => D (len + j))
    simp only [List.length_map, List.length_range] at hle
    dsimp only at hk
    have hDi : ∀ i, i < len → Rows.uptoBulk (D i) ≤ 1048576 := fun i hil => by
      have := bulks.part_le (d := D i) (l := (List.range len).map D) (List.mem_map.2 ⟨i, List.mem_range.2 hil, rfl⟩)
      omega
    obtain ⟨t, ht, hq⟩ := list_of (Q := fun i (n : Node) => NodeAt w (a.add (i * 4)) n ∧ n.path.size ≤ 1048576 ∧ n.data.size ≤ 1048576) len (fun i hik => by
      obtain ⟨ys, n, hD, _, _, hfld⟩ := hi i (by omega)
      obtain ⟨v0, y0, hc0, hy0, ht0⟩ := hfld 0 _ rfl
      obtain ⟨v1, y1, hc1, _, ht1⟩ := hfld 1 _ rfl
      obtain ⟨v2, y2, hc2, hy2, ht2⟩ := hfld 2 _ rfl
      obtain ⟨v3, y3, hc3, _, ht3⟩ := hfld 3 _ rfl
      obtain ⟨s0, e0, d0, z0⟩ := DataW.trod_string Tryz.underlying9 ht0
      obtain ⟨k1, e1, -, -⟩ := DataW.trod_int Tryz.underlying3 ht1
      obtain ⟨s2, e2, d2, z2⟩ := DataW.trod_string Tryz.underlying9 ht2
      obtain ⟨k3, e3, -, -⟩ := DataW.trod_int Tryz.underlying3 ht3
      simp only [List.cons.injEq, and_true] at e0 e1 e2 e3
      subst e0; subst e1; subst e2; subst e3
      rw [← Go.Deep.add_add] at hc1 hc2 hc3
      have hb := hDi i hik
      rw [hD] at hb
      have hagg : Rows.uptoBulkAll (ys.map (·.1)) ≤ Rows.uptoBulk (DataW.agg (ys.map (·.1))) := by simp only [Rows.uptoBulk]; omega
      have hp0 := bulks.part_le (d := y0.1) (l := ys.map (·.1)) (List.mem_map.2 ⟨y0, List.mem_of_getElem? hy0, rfl⟩)
      have hp2 := bulks.part_le (d := y2.1) (l := ys.map (·.1)) (List.mem_map.2 ⟨y2, List.mem_of_getElem? hy2, rfl⟩)
      rw [d0] at hp0
      rw [d2] at hp2
      have hs0 := str_bulk (H := H) s0
      have hs2 := str_bulk (H := H) s2
      exact ⟨⟨s0, k1, s2, k3⟩, ⟨hc0, hc1, hc2, hc3⟩, by dsimp only at *; omega, by dsimp only at *; omega⟩)
    refine ⟨some a, t, cap, by rw [ht]; exact hcs, fun hne => ⟨a, rfl, ?_, fun i n hin => (hq i n hin).1⟩, by rw [ht]; exact hl, hm, by rw [ht]; omega, fun n hn => ?_, (fun h => by cases h)⟩
    · obtain ⟨n, hn⟩ := List.exists_mem_of_ne_nil t hne
      obtain ⟨i, hi, rfl⟩ := List.getElem_of_mem hn
      have := World.block_lt_of_cell? _ _ (hq i _ (List.getElem?_eq_getElem hi)).1.path
      rwa [add_block] at this
    · obtain ⟨i, hi, rfl⟩ := List.getElem_of_mem hn
      exact (hq i _ (List.getElem?_eq_getElem hi)).2
end Go.Proofs.YtpaeihdkggbeoaaGreatDoor
namespace Go.Proofs.YtpaeihdkggbeoaaGreatDoor.reconTells
open Go.ChangeShapes Go.WideShapes Go.ChangeAt Go.RowKit Go.Deep

theorem cellsT : Tryz.prog.cellsOf 24 = 3 := by kernel_rfl
set_option maxRecDepth 100000 in
theorem contract (H : Type) (enc : TypeId × Value → H) (W : World) (base : Nat) (args : Array Value) (ds gs : List (DataW H)) (before : List MemPlace)
    (hval : ∀ (j : Nat) t v, Tryz.f3.params[j]? = some t → args[j]? = some v → Value.okWide Tryz.prog W .any base t v)
    (hW : DataW.Whole enc Tryz.prog Tryz.f3.params.toList Rows.reconTellsSpec.vars false W args.toList ds gs before) (hL : laidMet Tryz.prog Rows.reconTellsRow.laid W) (hk : Rows.uptoSmall H (ds ++ gs) = true) :
    Calls Tryz.prog 3 args W fun e W' => ∃ v, e = .returned v ∧ Rows.reconTellsSpec.post enc Tryz.prog Tryz.f3 false true false false W args v W' := by
  have hW' := hW
  obtain ⟨p, q, hA0, hV, rfl, hfz, hnd⟩ := hW
  have hA : DataW.TrodAll enc Tryz.prog W 0 (fun _ => true) true Tryz.f3.params.toList args.toList ds p := hA0
  rw [Tryz.params3] at hA hval
  obtain ⟨v0, d0, rfl, rfl, h0⟩ := trodAll_one hA
  obtain ⟨rfl, rfl⟩ := trodVars_none hV
  clear hA0
  simp only [List.append_nil] at hW' hk
  have hlt : ∀ x ∈ p, x.block < W.heap.size := fun x hx => by simpa using hW'.lt x hx
  have hb := bulks.bound hk
  have key : Calls Tryz.prog 3 #[v0] W fun e w' => e = .returned (.bool true) ∧ Off [] W w' := by
    obtain ⟨c0, c1, c2, y0, y1, y2, m, rfl, hd, -, h0, h1, h2⟩ := Go.Joins.open_agg3 Tryz.underlying24 (by kernel_rfl) cellsT (hval 0 24 v0 rfl rfl) h0
    have hd0 := bulks.part_le (d := d0) (l := [d0]) (by simp)
    rw [hd] at hd0 hb
    have hagg : Rows.uptoBulkAll [y0.1, y1.1, y2.1] ≤ Rows.uptoBulk (DataW.agg [y0.1, y1.1, y2.1]) := by simp only [Rows.uptoBulk]; omega
    have hb0 := bulks.part_le (d := y0.1) (l := [y0.1, y1.1, y2.1]) (by simp)
    have hb1 := bulks.part_le (d := y1.1) (l := [y0.1, y1.1, y2.1]) (by simp)
    have hb2 := bulks.part_le (d := y2.1) (l := [y0.1, y1.1, y2.1]) (by simp)
    obtain ⟨p0, t0, k0, e0, hR0, hc0, hm0, hl0, hF0, hn0⟩ := open_nodes_up h0 (by omega)
    obtain ⟨p1, t1, k1, e1, hR1, hc1, hm1, hl1, hF1, hn1⟩ := open_nodes_up h1 (by omega)
    obtain ⟨p2, t2, k2, e2, hR2, hc2, hm2, hl2, hF2, hn2⟩ := open_nodes_up h2 (by omega)
    simp only [List.cons.injEq, and_true] at e0 e1 e2
    subst e0; subst e1; subst e2
    exact rtells_any _ _ _ _ _ _ _ _ _ t0 t1 t2 W ⟨⟨hR0, rfl, hc0, hm0, hn0, hF0.fits⟩, ⟨hR1, rfl, hc1, hm1, hn1, hF1.fits⟩, ⟨hR2, rfl, hc2, hm2, hn2, hF2.fits⟩⟩ ⟨hF0, hF1, hF2⟩ (tabs_of hL)
  refine key.mono fun e W' ⟨he, ho⟩ => ?_
  subst he
  have hb := ho.below
  refine ⟨_, rfl, post_of_below (pa := p) (pv := []) hW' (fun _ _ _ => trodAll_mk1 (shut_bool Tryz.underlying4 _)) (fun sp hsp => ?_) (fun _ _ => rfl) (by simp) hb (ok_one (by kernel_rfl) rfl (okWide_bool_mk Tryz.underlying4 _))⟩
  exact trodAll_mk1 (WideElems.Trod_stays laidOut (by kernel_rfl) (of_decide_eq_true (by kernel_rfl)) h0 (fun x hx => hb.same (hlt x hx)) hsp)

set_option maxRecDepth 100000 in
theorem witness_row (os : Os) {H : Type} (enc : TypeId × Value → H) :
    (Rows.OpenSpec.upto Rows.reconTellsSpec).preRow enc Tryz.prog Tryz.f3 Rows.reconTellsUptoRow.domain false Rows.reconTellsUptoRow.laid ((laidWorld os).forCall (fun _ _ => 0) ⟨#[], #[.agg #[.slice none 0 0, .slice none 0 0, .slice none 0 0]], []⟩).memory #[.agg #[.slice none 0 0, .slice none 0 0, .slice none 0 0]] := by
  have hw : (DataW.whole enc Tryz.prog ((laidWorld os).forCall (fun _ _ => 0) ⟨#[], #[.agg #[.slice none 0 0, .slice none 0 0, .slice none 0 0]], []⟩).memory Tryz.f3.params.toList Rows.reconTellsSpec.vars false #[Value.agg #[.slice none 0 0, .slice none 0 0, .slice none 0 0]].toList 8).map (fun x => (x.1, x.2.1)) =
      some ([.agg [.nil, .nil, .nil]], []) := by kernel_rfl
  obtain ⟨⟨x1, x2, x3⟩, hx, hx1⟩ := Option.map_eq_some_iff.1 hw
  simp only [Prod.mk.injEq] at hx1
  obtain ⟨rfl, rfl⟩ := hx1
  exact OpenSpec.preRow_of_cond 8 hx (by kernel_rfl) (fun k hk => by cases hk; kernel_rfl) (by kernel_rfl) (laid_met os _)

set_option maxRecDepth 100000 in
theorem lifted (os : Os) (started : os.Started) (H : Type) (enc : TypeId × Value → H) (F : Stop.Interp) :
    ReturnsInHanded {} Tryz.checked os 3 .any ((Rows.OpenSpec.upto Rows.reconTellsSpec).preRow enc Tryz.prog Tryz.f3 Rows.reconTellsUptoRow.domain false Rows.reconTellsUptoRow.laid) (((Rows.OpenSpec.upto Rows.reconTellsSpec).at F).post enc Tryz.prog Tryz.f3 false true false false) := by
  refine returnsInHanded_of_row (C := Tryz.checked) (s := Rows.OpenSpec.upto Rows.reconTellsSpec) own started (by kernel_rfl) Tryz.func3
    (witness_row_atRef (enc := enc) (C := Tryz.checked) false (laidWorld os) #[.agg #[.slice none 0 0, .slice none 0 0, .slice none 0 0]] rfl (by kernel_rfl) (by kernel_rfl) (by kernel_rfl) (witness_row os enc)) ?_
  intro W base args ds gs before hval hW _ hcond _ hL _ _
  exact contract H enc W base args ds gs before hval hW hL (hcond _ rfl)

set_option maxRecDepth 100000 in
theorem said : Rows.ReconTellsUptoSaid :=
  OpenClaim.holds_of_cond 3 Tryz.f3 rfl rfl rfl rfl rfl rfl rfl ⟨rfl, rfl, rfl, rfl, rfl⟩ rfl rfl rfl rfl rfl (by kernel_rfl) Tryz.func3 (by kernel_rfl)
    (of_decide_eq_true (by kernel_rfl)) (by unfold Func.isWrapper; first | (rw [if_pos (by decide +kernel)]; kernel_rfl) | (rw [if_neg (by decide +kernel)]; exact ⟨rfl, rfl⟩))
    (fun os started H enc _ F => by rw [OpenClaim.pre_eq_preRow]; exact lifted os started H enc F)

set_option maxRecDepth 100000 in
theorem plain (f : FuncId) (fn : Func) (hf : Tryz.pinned.checked.prog.funcNamed "hawser/hawserlaw12.ReconTells" = some f) (hfn : Tryz.pinned.checked.prog.funcs[f]? = some fn) :
    false = Tryz.pinned.checked.prog.looks [] ∧ ∀ (j : Nat) t, fn.params[j]? = some t → Tryz.pinned.checked.prog.wantsStandIn t = false := by
  obtain rfl : f = 3 := Option.some.inj ((show Tryz.prog.funcNamed "hawser/hawserlaw12.ReconTells" = some 3 by kernel_rfl).symm.trans hf) |>.symm
  obtain rfl : fn = Tryz.f3 := (Option.some.inj (Tryz.func3.symm.trans hfn)).symm
  refine ⟨by kernel_rfl, fun j t ht => ?_⟩
  rw [Tryz.params3] at ht
  obtain rfl : t = 24 := by simpa using Array.mem_of_getElem? ht
  exact (show Tryz.prog.wantsStandIn 24 = false by kernel_rfl)

set_option maxRecDepth 100000 in
theorem card : Rows.ReconTellsUptoCardSaid :=
  Claim7.holds_tied_plain_at .later [] _ _ _ _ said (fun _ h => by cases h) (by kernel_rfl) (fun _ h => by cases h) reconTellsUpto_row_tie rfl ⟨rfl, rfl⟩ (by kernel_rfl) rfl plain (by kernel_rfl)
end Go.Proofs.YtpaeihdkggbeoaaGreatDoor.reconTells
#print axioms Go.Proofs.YtpaeihdkggbeoaaGreatDoor.reconTells.card
