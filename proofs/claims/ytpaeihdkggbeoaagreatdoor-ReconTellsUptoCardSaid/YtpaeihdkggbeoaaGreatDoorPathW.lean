/- name.Path: the walk. Conditions: the tables of unicode/utf8 are laid. -/
import Derived.Test.YtpaeihdkggbeoaaGreatDoorSplit
namespace Go.Proofs.YtpaeihdkggbeoaaGreatDoor
open Go.RowKit Go.Op
attribute [local go_sem] Oper.semAt_some

/-- how a round's body may be left -/
def roundOut (r : Nat) (x : ByteArray) (W : World) : Exit → Act → World → Prop
  | .normal, _, W' => okName (str x) = true ∧ Off [] W W'
  | .ret, _, W' => okName (str x) = false ∧ Off [r] W W' ∧ Blk W' r 4 #[.bool false]
  | .exit _, _, _ => False
  | .goto _, _, _ => False
  | .panic _, _, _ => False
  | .outgrown, _, _ => False

theorem wpIn_split {gop : Operand} {p : Tmp} {assign body : Code} {Q : Exit → Act → World → Prop} {a : Act} {w0 w1 : World} {g r : Nat} {s : ByteArray}
    (hgo : a.eval gop = .func (.func 92) #[] #[.pointer (some ⟨g + 1, 0, none⟩), .pointer (some ⟨g, 0, none⟩), .pointer (some ⟨g + 2, 0, none⟩)])
    (hr : r < g) (hr0 : w0.heap.size ≤ r) (B0 : Blk w1 g 9 #[.string s]) (B1 : Blk w1 (g + 1) 9 #[.string ⟨#[47]⟩]) (B2 : Blk w1 (g + 2) 3 #[.int .i64 0]) (BR : Blk w1 r 4 #[.bool false])
    (ho : Off [] w0 w1) (hsz : s.size ≤ 400)
    (a₁ : ByteArray → Act)
    (hassign : ∀ (l : Nat) (x : ByteArray) (W : World) (K : Act → World → Prop), K (a₁ x) W →
      assign.wpIn (Fence.wide.inRound l) 1 Tryz.prog (Exit.then K (fun _ _ _ => False)) { tmps := ((#[p] : Array Tmp).zip #[Value.string x]).foldl (fun t (p, v) => t.setIfInBounds p v) a.tmps, defers := [] } W)
    (hbody : ∀ (l : Nat) (x : ByteArray) (W : World), x.size ≤ 400 → Off [] w0 W → Blk W r 4 #[.bool false] → body.wpIn (Fence.wide.inRound l) 1 Tryz.prog (roundOut r x W) (a₁ x) W)
    (hdone : (parts (str s)).all okName = true → ∀ (D : Nat) (W : World), w0.heap.size ≤ D → Off [] w0 W → Blk W r 4 #[.bool false] → W.heap[D]? = some (.deferred (some [])) → Q .normal { a with defers := { target := .collected D, args := #[] } :: a.defers } W)
    (hstop : (parts (str s)).all okName = false → ∀ (D : Nat) (W : World), w0.heap.size ≤ D → Off [] w0 W → Blk W r 4 #[.bool false] → W.heap[D]? = some (.deferred (some [])) → Code.ret.wpIn Fence.wide 3 Tryz.prog Q { a with defers := { target := .collected D, args := #[] } :: a.defers } W) :
    (Code.rangeFunc gop #[p] assign body).wpIn Fence.wide 3 Tryz.prog Q a w1 := by
  refine wpIn_rangeFunc ?_
  intro fn hfn
  have hro : Fence.wide.round = none := rfl
  rw [hro]
  obtain ⟨rc, hrc⟩ : ∃ rc : LoopState → Option Code → Loop, rc = fun st pe => { state := st, pending := pe, fn, tmps := a.tmps, params := #[p], assign, body, defers := w1.heap.size } := ⟨_, rfl⟩
  obtain ⟨W1, hW1⟩ : ∃ W1, (w1.alloc (.deferred (some []))).alloc (.loop (rc .ready none)) = W1 := ⟨_, rfl⟩
  have hL1 : W1.heap[w1.heap.size + 1]? = some (.loop (rc .ready none)) := by
    rw [← hW1]; have := World.alloc_heap_new (w1.alloc (.deferred (some []))) (.loop (rc .ready none)); rwa [World.size_alloc] at this
  have hK1 : W1.heap[w1.heap.size]? = some (.deferred (some [])) := by
    rw [← hW1]; exact (Below.heap_alloc _ _ _ (by simp)).trans (World.alloc_heap_new w1 _)
  have hI1 : SplInv (w1.heap.size + 1) w1.heap.size g r rc w0 s W1 := by
    refine ⟨hL1, hK1, ?_, ?_, ?_, ?_, ?_, hsz⟩ <;> rw [← hW1]
    · exact (B0.alloc _).alloc _
    · exact (B1.alloc _).alloc _
    · exact (B2.alloc _).alloc _
    · exact (BR.alloc _).alloc _
    · exact (ho.alloc _).alloc _
  have hle : w0.heap.size ≤ w1.heap.size := ho.size
  have hgl := B0.lt
  have hgl1 := B1.lt
  have hgl2 := B2.lt
  have hrl := BR.lt
  refine ⟨w1.heap.size + 1, [{ target := .collected w1.heap.size, args := #[] }], W1, { target := .fn (.func 92) #[.pointer (some ⟨g + 1, 0, none⟩), .pointer (some ⟨g, 0, none⟩), .pointer (some ⟨g + 2, 0, none⟩)], args := #[.func (.yield (w1.heap.size + 1)) #[] #[]] }, W1, 92,
    #[.func (.yield (w1.heap.size + 1)) #[] #[]] ++ #[.pointer (some ⟨g + 1, 0, none⟩), .pointer (some ⟨g, 0, none⟩), .pointer (some ⟨g + 2, 0, none⟩)], W1, ?_, ?_, ?_, ?_, fun _ => by omega, ?_⟩
  · rw [← hW1, hrc]; exact run_enterLoop_outer _ _ _ _ _
  · simp only [resolve, hgo]
    simp [go_sem]
  · intro f' _; trivial
  · have eg : ∀ args w, (callFunc 92 args).run Tryz.prog w = .ok (.enter 92 args) w := enters_of Tryz.func92 (by kernel_rfl) rfl
    simp [invoke, go_sem, eg]
  · refine (split_in 1 (w1.heap.size + 1) w1.heap.size g r rc w0 (by omega) hr ?_ s W1 hI1).mono ?_
    · -- one round
      intro cur x W hI hx
      have hlt : w1.heap.size + 1 < W.heap.size := (Array.getElem?_eq_some_iff.1 hI.rdy).1
      have hy := run_yield (P := Tryz.prog) (args := #[.string x]) hI.rdy (by rw [hrc]; rfl)
      rw [hrc] at hy
      have hy2 : (Instr.yield (w1.heap.size + 1) #[.string x]).run Tryz.prog W = .ok (.round (w1.heap.size + 1) fn (((#[p] : Array Tmp).zip #[Value.string x]).foldl (fun t (p, v) => t.setIfInBounds p v) a.tmps) assign body) W := hy
      refine ⟨fn, _, assign, body, hy2, roundIn_of_wpIn hfn ?_⟩
      refine hassign _ x W (fun a₁ w₁ => ∃ w₂, (Instr.beginRound (w1.heap.size + 1)).run Tryz.prog w₁ = .ok () w₂ ∧ body.wpIn (Fence.wide.inRound (w1.heap.size + 1)) 1 Tryz.prog (roundPost Tryz.prog (w1.heap.size + 1) _) a₁ w₂) ?_
      refine ⟨_, run_beginRound hI.rdy (by rw [hrc]), ?_⟩
      obtain ⟨W2, hW2⟩ : ∃ W2, W.putObj (w1.heap.size + 1) (.loop { rc .ready none with state := .busy }) = W2 := ⟨_, rfl⟩
      rw [hW2]
      have oth : ∀ k, k ≠ w1.heap.size + 1 → W2.heap[k]? = W.heap[k]? := fun k hk => by rw [← hW2]; exact World.putObj_heap_other hk
      have hl2 : W2.heap[w1.heap.size + 1]? = some (.loop { rc .ready none with state := .busy }) := by rw [← hW2]; exact World.putObj_heap_same hlt
      have hz2 : W2.heap.size = W.heap.size := by rw [← hW2]; simp [World.putObj]
      have ho2 : Off [] w0 W2 := hI.off.grown (by rw [← hW2]; exact grownBy_putObj' W _ _) (fun k e => by cases e; exact .inl (by omega))
      have hr2 : Blk W2 r 4 #[.bool false] := (oth r (by omega)).trans hI.res
      refine wpIn_mono (hbody _ x W2 hx ho2 hr2) ?_
      rintro e a3 W3 hp
      cases e with
      | normal =>
        obtain ⟨hok, h3⟩ := hp
        have keep : ∀ k o, W2.heap[k]? = some o → W3.heap[k]? = some o := fun k o hk => (h3.block k (Array.getElem?_eq_some_iff.1 hk).1 (by simp)).trans hk
        have hl3 := keep _ _ hl2
        have he := run_endRound (P := Tryz.prog) none hl3
        refine ⟨_, _, he, .inl ⟨hok, rfl, ?_⟩⟩
        have ot4 : ∀ k, k ≠ w1.heap.size + 1 → ∀ o, W.heap[k]? = some o → (W3.putObj (w1.heap.size + 1) (.loop { { rc .ready none with state := .busy } with state := if (none : Option Code).isNone then .ready else .done, pending := none })).heap[k]? = some o :=
          fun k hk o hko => (World.putObj_heap_other hk).trans (keep _ _ ((oth k hk).trans hko))
        refine ⟨?_, ot4 _ (by omega) _ hI.dfr, ot4 _ (by omega) _ hI.s, ot4 _ (by omega) _ hI.sep, ot4 _ (by omega) _ hI.sv, ot4 _ (by omega) _ hI.res, ?_, hI.sz⟩
        · rw [World.putObj_heap_same (Array.getElem?_eq_some_iff.1 hl3).1, hrc]; rfl
        · exact (ho2.trans_nil h3).grown (grownBy_putObj' _ _ _) (fun k e => by cases e; exact .inl (by omega))
      | ret =>
        obtain ⟨hok, h3, hb3⟩ := hp
        have keep : ∀ k o, k ≠ r → W2.heap[k]? = some o → W3.heap[k]? = some o := fun k o hkr hk => (h3.block k (Array.getElem?_eq_some_iff.1 hk).1 (by simpa using hkr)).trans hk
        have hl3 := keep _ _ (by omega) hl2
        have he := run_endRound (P := Tryz.prog) (some .ret) hl3
        refine ⟨_, _, he, .inr ⟨hok, rfl, ?_⟩⟩
        have ot4 : ∀ k, k ≠ w1.heap.size + 1 → k ≠ r → ∀ o, W.heap[k]? = some o → (W3.putObj (w1.heap.size + 1) (.loop { { rc .ready none with state := .busy } with state := if (some Code.ret).isNone then .ready else .done, pending := some .ret })).heap[k]? = some o :=
          fun k hk hkr o hko => (World.putObj_heap_other hk).trans (keep _ _ hkr ((oth k hk).trans hko))
        refine ⟨?_, ot4 _ (by omega) (by omega) _ hI.dfr, (World.putObj_heap_other (by omega)).trans hb3, ?_⟩
        · rw [World.putObj_heap_same (Array.getElem?_eq_some_iff.1 hl3).1, hrc]; rfl
        · exact (ho2.trans h3 (by simp; omega)).grown (grownBy_putObj' _ _ _) (fun k e => by cases e; exact .inl (by omega))
      | exit id => exact hp.elim
      | goto t => exact hp.elim
      | panic ch => exact hp.elim
      | outgrown => exact hp.elim
    · rintro e W2 ⟨⟨v, rfl⟩, (⟨hall, cur, hI⟩ | ⟨hall, hX⟩)⟩
      · have hend := run_endLoop (P := Tryz.prog) hI.rdy (by rw [hrc]; simp)
        refine ⟨_, _, hend, ?_⟩
        rw [hrc]
        exact hdone hall w1.heap.size _ hle (hI.off.grown (grownBy_putObj' _ _ _) (fun k e => by cases e; exact .inl (by omega))) ((World.putObj_heap_other (by omega)).trans hI.res) ((World.putObj_heap_other (by omega)).trans hI.dfr)
      · have hend := run_endLoop (P := Tryz.prog) hX.don (by rw [hrc]; simp)
        refine ⟨_, _, hend, ?_⟩
        rw [hrc]
        exact hstop hall w1.heap.size _ hle (hX.off.grown (grownBy_putObj' _ _ _) (fun k e => by cases e; exact .inl (by omega))) ((World.putObj_heap_other (by omega)).trans hX.res) ((World.putObj_heap_other (by omega)).trans hX.dfr)

theorem count_any (s : ByteArray) (w : World) : Calls Tryz.prog 48 #[.string s, .string ⟨#[47]⟩] w fun e w' => e = .returned (.int .i64 ((str s).count 47 : Nat)) ∧ w = w' :=
  (Tryz.strings_Count_one s 47 w).mono fun _ _ ⟨a, b⟩ => ⟨a, b.symm⟩
theorem okPath_eq (s : ByteArray) : okPath (str s) = (decide (s.size ≤ 400) && decide ((str s).count 47 < 16) && (parts (str s)).all okName) := by
  unfold okPath; rw [str_size]

set_option maxRecDepth 100000 in
set_option maxHeartbeats 4000000 in
theorem path_any (s : ByteArray) (w : World) (hT : Tabs w) :
    Calls Tryz.prog 29 #[.string s] w fun e w' => e = .returned (.bool (okPath (str s))) ∧ Off [] w w' := by
  have hk := Lib.hid (okPath_eq s)
  refine callsIn_wide (n := 3).1 ?_
  refine callsIn_of_wp_marks Tryz.func29 rfl trivial ?_ rfl
  simp only [Tryz.ntmps29, List.size_toArray, List.length_cons, List.length_nil, Nat.reduceAdd, Nat.reduceSub, Array.replicate_succ, Array.replicate_zero, List.push_toArray, List.append_toArray, List.nil_append, List.cons_append]
  by_cases h1 : s.size ≤ 400
  · gi_wp2
    refine ⟨trivial, (callsIn_wide.2 (count_any s _)).mono ?_⟩
    rintro e w' ⟨rfl, e1⟩
    subst e1
    by_cases h2 : (str s).count 47 < 16
    · generalize hcn : (str s).count 47 = cn at *
      have HC := Lib.hid hcn
      clear hcn
      gi_wp2
      refine ⟨trivial, (callsIn_wide.2 (splitSeq_any s _)).mono ?_⟩
      rintro e w1 ⟨g, rfl, hg, B0, B1, B2, ho⟩
      gi_wp2
      have BR : Blk w1 w.heap.size 4 #[.bool false] := (Blk.new w 4 #[.bool false]).off ho (by simp)
      have how : Off [] w w1 := ((Off.refl _ _).alloc _).trans_nil ho
      have hgw : w.heap.size < g := by rw [World.size_alloc] at hg; omega
      clear ho hg
      refine wpIn_split (g := g) (r := w.heap.size) (w0 := w) (s := s) rfl hgw (Nat.le_refl _) B0 B1 B2 BR how h1
        (fun x => { tmps := #[.string s, undef, .pointer (some ⟨w.heap.size, 0, none⟩), .string x, .string s, .int .i64 s.size, .bool (decide (400 < (s.size : Int))), .bool (decide (400 < (s.size : Int))), .string s, .int .i64 cn, .bool (decide (16 ≤ (cn : Int))), .bool (decide (400 < (s.size : Int)) || decide (16 ≤ (cn : Int))), .string s, .func (.func 92) #[] #[.pointer (some ⟨g + 1, 0, none⟩), .pointer (some ⟨g, 0, none⟩), .pointer (some ⟨g + 2, 0, none⟩)], .string x, undef, undef, undef], defers := [] }) ?assign ?body ?done ?stop
      case assign =>
        intro l x W K hK
        gi_wp2
        exact hK
      case body =>
        intro l x W hx ho hb
        have hcell := hb.cell 0
        have hfr := hb.frozen 0
        have hbl := hb.lt
        cases hv : okName (str x)
        · have HV := Lib.hid hv
          clear hv
          gi_wp2
          refine ⟨trivial, (CallsIn.inRound l (callsIn_wide.2 (name_any x W (by unfold maxLen; omega) (hT.off ho)))).mono ?_⟩
          rintro e w2 ⟨rfl, ho2⟩
          rw [HV.out]
          have hb2 := hb.off ho2 (by simp)
          have hcell2 := hb2.cell 0
          have hfr2 := hb2.frozen 0
          gi_wp2
          exact ⟨HV.out, (ho2.mono (fun _ _ h => by cases h)).setCell (.inr (by simp)) _, by simpa using hb2.set_ 0 (.bool false)⟩
        · have HV := Lib.hid hv
          clear hv
          gi_wp2
          refine ⟨trivial, (CallsIn.inRound l (callsIn_wide.2 (name_any x W (by unfold maxLen; omega) (hT.off ho)))).mono ?_⟩
          rintro e w2 ⟨rfl, ho2⟩
          rw [HV.out]
          gi_wp2
          exact ⟨HV.out, ho2⟩
      case done =>
        intro hall D W hD ho hb hK
        have hcell := hb.cell 0
        have hfr := hb.frozen 0
        have hbl := hb.lt
        gi_wp2
        have hne : D ≠ w.heap.size := by
          rintro rfl
          unfold Blk at hb
          rw [hb] at hK
          simp at hK
        have hb' : Blk (W.setCell ⟨w.heap.size, 0, none⟩ (.bool true)) w.heap.size 4 #[.bool true] := by simpa using hb.set_ 0 (.bool true)
        have hK' := (Below.heap_setCell W ⟨w.heap.size, 0, none⟩ (.bool true) D hne).trans hK
        have hb2 : Blk ((W.setCell ⟨w.heap.size, 0, none⟩ (.bool true)).putObj D (.deferred none)) w.heap.size 4 #[.bool true] := (World.putObj_heap_other (Ne.symm hne)).trans hb'
        have hcl := hb2.cell 0
        refine ⟨by simp, .inl ⟨_, _, rfl, run_takeDeferred hK', .bool true, by simp [results, Tryz.f29, go_sem, hcl], ?_⟩⟩
        exact ⟨by rw [hk.out, hall]; simp [h1, h2], (ho.setCell (.inl (Nat.le_refl _)) _).grown (grownBy_putObj' _ _ _) (fun k e => by cases e; exact .inl hD)⟩
      case stop =>
        intro hall D W hD ho hb hK
        have hcell := hb.cell 0
        gi_wp2
        have hne : D ≠ w.heap.size := by
          rintro rfl
          unfold Blk at hb
          rw [hb] at hK
          simp at hK
        have hb2 : Blk (W.putObj D (.deferred none)) w.heap.size 4 #[.bool false] := (World.putObj_heap_other (Ne.symm hne)).trans hb
        have hcl := hb2.cell 0
        refine ⟨by simp, .inl ⟨_, _, rfl, run_takeDeferred hK, .bool false, by simp [results, Tryz.f29, go_sem, hcl], ?_⟩⟩
        exact ⟨by rw [hk.out, hall]; simp, ho.grown (grownBy_putObj' _ _ _) (fun k e => by cases e; exact .inl hD)⟩
    · generalize hcn : (str s).count 47 = cn at *
      have HC := Lib.hid hcn
      clear hcn
      have hcl := (Blk.new w 4 #[.bool false]).cell 0
      gi_wp2
      refine ⟨.bool false, by simp [results, Tryz.f29, go_sem, hcl], ?_⟩
      exact ⟨by rw [hk.out]; simp [h2], (Off.refl _ _).alloc _⟩
  · have hcl := (Blk.new w 4 #[.bool false]).cell 0
    gi_wp2
    refine ⟨trivial, ?_⟩
    gi_wp2
    refine ⟨.bool false, by simp [results, Tryz.f29, go_sem, hcl], ?_⟩
    exact ⟨by rw [hk.out]; simp [h1], (Off.refl _ _).alloc _⟩
end Go.Proofs.YtpaeihdkggbeoaaGreatDoor
