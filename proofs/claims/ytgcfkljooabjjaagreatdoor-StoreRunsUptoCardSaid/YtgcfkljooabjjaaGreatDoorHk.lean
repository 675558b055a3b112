/- Texts of this claim, one behind the other: RWith Calm RunK RunP AskE StampLaw RunE RunC RNorm RNorm2 RMade REditLaw Slim. Conditions: what each lemma states. -/
import Derived.Test.YtgcfkljooabjjaaGreatDoorHj
import Derived.Test.YtgcfkljooabjjaaGreatDoorHi
import Derived.Test.YtgcfkljooabjjaaGreatDoorHh
namespace Go.Proofs.YtgcfkljooabjjaaGreatDoor
section
open Go.RowKit Go.Op Go.Maps
variable {A : RArg}
theorem step_append_own7 {P : Program} {w : World} {ops : Array Oper} {o : Oper} {a : Act} {K : Act → World → Prop} {Q : Exit → Act → World → Prop} {E : Prop} (hgd : o.guard = none) (s x : Operand) (t : TypeId)
    (ho : o.op = .call { callee := .builtin .append, args := #[s, x], argTypes := #[t, t] })
    (base : Nat) (e : TypeId) (i : TypeInfo) (z : Value) (size bytes : Nat) (ht : P.underlying t = some (.slice e)) (hi : P.info? e = some i) (hz : i.zero = some z)
    (hsize : i.size = size) (hby : i.bytes = bytes) (hzs : z.cells.size = size) (hsz : 0 < size)
    (v : Value) (n : Nat) (xs : List Value) (hs : a.eval s = v) (hown : w.ownsRow base e size v n xs)
    (ad : Addr) (m c : Nat) (news : List Value) (hx : a.eval x = .slice (some ad) m c) (hl : news.length = m * size) (hnews : ∀ j u, news[j]? = some u → w.cell? (ad.add j) = some u) (h1 : ∀ u ∈ news, u.oneCell' = true)
    (h63 : n + m ≤ maxLen) (hbytes : (n + m) * bytes ≤ 140737488355328) (hbase : base ≤ w.heap.size)
    (h : ∀ v' w', w'.ownsRow base e size v' (n + m) (xs ++ news) → w.grownBy w' v.ownBlock → (v' = .slice none 0 0 ↔ v = .slice none 0 0 ∧ m = 0) → K (a.put o.dst v') w') :
    if Region.wanted o (yielded ops a.tmps) = true then Oper.wp P o a w K Q else E := by
  have hw : Region.wanted o (yielded ops a.tmps) = true := by simp [Region.wanted, hgd]
  rw [if_pos hw]; exact wp_append_own w s x t ho base e i z size bytes ht hi hz hsize hby hzs hsz v n xs hs hown ad m c news hx hl hnews h1 h63 hbytes hbase h
theorem rino_snoc (l : List Ino) (n : Ino) : rinoCells (l ++ [n]) = rinoCells l ++ [.int .i64 n.node.kind, .int .i64 n.node.mode, .int .i64 n.time, .string n.node.data, .bool n.dirty] := by unfold rinoCells; simp
theorem five_at {w : World} {g : Nat} {t : TypeId} {a b c d e : Value} (h : Blk w g t #[a, b, c, d, e]) : ∀ j u, [a, b, c, d, e][j]? = some u → w.cell? ((⟨g, 0, none⟩ : Addr).add j) = some u := by
  intro j u hj
  rw [addr_add, h.cell]
  simpa using hj
theorem push_ino {w W w7 : World} {p M gg cap : Nat} {L : List Nat} {G : RGeo} {E : PDisk} {n : Ino} {o : Obj} (hS : RefS A w p L W G E) (hM : E.inos.length = M)
    (hown : w7.ownsRow 0 125 5 (.slice (some ⟨gg, 0, none⟩) (M + 1) cap) (M + 1) (rinoCells E.inos ++ [.int .i64 n.node.kind, .int .i64 n.node.mode, .int .i64 n.time, .string n.node.data, .bool n.dirty]))
    (hg : (W.drew.alloc o).grownBy w7 G.iv.ownBlock) (hat : G.iv.ownBlock = some gg ∨ gg = W.heap.size + 1) :
    RefS A w p L (w7.setCell ⟨p, 3, none⟩ (.slice (some ⟨gg, 0, none⟩) (M + 1) cap)) { G with iv := .slice (some ⟨gg, 0, none⟩) (M + 1) cap } { E with inos := E.inos ++ [n] } := by
  have hpl : some p ≠ G.iv.ownBlock := own_ne hS.1.inos hS.1.blk (by decide)
  have hX : Off G.iv.ownBlock.toList W w7 := (((Off.refl _ W).drew).alloc o).grown hg (fun k hk => .inr (by rw [hk]; simp))
  have hO : Only W G.iv.ownBlock.toList [125] := fun b hb => by
    obtain ⟨cs, hB⟩ := own_blks hS.1.inos b hb; exact ⟨_, by simp, _, hB⟩
  have hB7 : Blk w7 p 69 (refCells A G E) := ((hS.1.blk.drew).alloc o).grown hg hpl
  have hP : RefP w7 { G with iv := .slice (some ⟨gg, 0, none⟩) (M + 1) cap } { E with inos := E.inos ++ [n] } :=
    ⟨hO.row hX hS.1.names (by decide), hO.row hX hS.1.safe (by decide), hO.row hX hS.1.later (by decide), fun i v l h1 h2 => hO.row hX (hS.1.laters i v l h1 h2) (by decide), (by
      dsimp only
      rw [rino_snoc, List.length_append, hM]; exact hown), hO.row hX hS.1.trace (by decide), (hO.wea hX hS.1 (by decide)).1, (hO.wea hX hS.1 (by decide)).2⟩
  refine ⟨(hP.self hB7 ((Off.refl [p] w7).setCell (p := ⟨p, 3, none⟩) (.inr (by simp)) _)).with ?_, ?_, fun b hb => ?_⟩
  · have := hB7.set_ 3 (.slice (some ⟨gg, 0, none⟩) (M + 1) cap)
    unfold refCells at this ⊢
    simpa using this
  · refine (hS.2.1.trans hX (fun x hx hm => ?_)).setCell (p := ⟨p, 3, none⟩) (.inr (List.mem_cons_self ..)) _
    rcases hS.2.2 x (mem_blocks.2 (.inr (.inr (.inr (.inr (.inl hm)))))) with h | h
    · exact List.mem_cons_of_mem _ h
    omega
  have hsz := hS.2.1.size
  rcases mem_blocks.1 hb with hb | hb | hb | hb | hb | hb
  · exact hS.2.2 b (mem_blocks.2 (.inl hb))
  · exact hS.2.2 b (mem_blocks.2 (.inr (.inl hb)))
  · exact hS.2.2 b (mem_blocks.2 (.inr (.inr (.inl hb))))
  · exact hS.2.2 b (mem_blocks.2 (.inr (.inr (.inr (.inl hb)))))
  · simp [Value.ownBlock] at hb
    subst hb
    rcases hat with h | h
    · exact hS.2.2 _ (mem_blocks.2 (.inr (.inr (.inr (.inr (.inl (by rw [h]; simp)))))))
    exact .inr (by omega)
  exact hS.2.2 b (mem_blocks.2 (.inr (.inr (.inr (.inr (.inr hb))))))
theorem ent_one {l : NameL} : ∀ u ∈ entCells l, u.oneCell' = true := fun u hu => by
  unfold entCells at hu; obtain ⟨n, -, hu⟩ := List.mem_flatMap.1 hu; simp only [List.mem_cons, List.not_mem_nil, or_false] at hu
  rcases hu with rfl | rfl <;> rfl
theorem ent_len (l : NameL) : (entCells l).length = l.length * 2 := rflat_len _ 2 (fun _ => rfl) l
set_option maxRecDepth 100000 in
set_option maxHeartbeats 16000000 in
theorem r7with_any (p : Nat) (G : RGeo) (E : PDisk) (path : ByteArray) (n : Ino) (w : World) (h : RefM A w p G E) (hl : E.inos.length ≤ 1000000000) (hn : E.names.length ≤ 999999) (hll : E.later.length ≤ 1000000000) (hs : ∀ x ∈ E.names, x.1.size ≤ 1048576) (hp : path.size ≤ 1048576) :
    Calls Tryz.prog 104 #[.pointer (some ⟨p, 0, none⟩), .string path, inoVal n] w fun e w' => e = .returned (.tuple #[]) ∧ RefTo A w p G.blocks w' { E with inos := E.inos ++ [n], names := sortI (E.names ++ [(path, E.inos.length + 1)]), later := E.later ++ [sortI (E.names ++ [(path, E.inos.length + 1)])] } := by
  obtain ⟨i0, hi0, hz0, hz1, hz2⟩ := info_parts infoIno; obtain ⟨i1, hi1, hy0, hy1, hy2⟩ := info_parts infoEnt; unfold inoVal; have H := Lib.hid h; obtain ⟨pi, ci, hiv, -, -, -⟩ := own_at h.inos; obtain ⟨M, hM⟩ : ∃ M, E.inos.length = M := ⟨_, rfl⟩
  have HM := Lib.hid hM; rw [hM] at hiv hl; have HIV := Lib.hid hiv; rw [hM]; clear h hM hiv
  go_enter Tryz.func104, Tryz.ntmps104
  go_upto_region 1 with fail
  refine code_gen (fun W => Blk W w.heap.size 125 #[.int .i64 n.node.kind, .int .i64 n.node.mode, .int .i64 n.time, .string n.node.data, .bool n.dirty] ∧ Off [] w W) ⟨Blk.new w _ _, (Off.refl _ _).alloc _⟩ ?_
  rintro W ⟨hb, ho⟩; have hS := (RefS.refl H.out).off ho; have HS := Lib.hid hS; have hcb := hb.cell; have hlb := hb.lt; have hB := hS.1.blk; have hc := hB.cell; have hf := hB.frozen; have hlp := hB.lt; unfold refCells at hc; rw [HIV.out] at hc
  have hown6 : (W.drew.alloc (.cells #[.int .i64 n.node.kind, .int .i64 n.node.mode, .int .i64 n.time, .string n.node.data, .bool n.dirty] 125)).ownsRow 0 125 5 (.slice pi M ci) M (rinoCells E.inos) := by
    have := own_offk (k := []) hS.1.inos ((Off.refl [] W).drew.alloc (.cells #[.int .i64 n.node.kind, .int .i64 n.node.mode, .int .i64 n.time, .string n.node.data, .bool n.dirty] 125)) (by simp); rw [HIV.out, HM.out] at this; exact this
  have HW6 := Lib.hid hown6; have HPL := Lib.hid (show some p ≠ (Value.slice pi M ci).ownBlock from own_ne hown6 (hB.drew.alloc _) (by decide)); have HBP := Lib.hid (hB.drew.alloc (.cells #[.int .i64 n.node.kind, .int .i64 n.node.mode, .int .i64 n.time, .string n.node.data, .bool n.dirty] 125)); clear hb ho hS hB hown6
  go_cut [] from 6 to 15 (fun wx => ∃ G1, RefS A w p G.blocks wx G1 { E with inos := E.inos ++ [n] })
  case first =>
    go_region_law ((refine step_append_lies _ (by rfl) _ _ _ (by rfl) 0 125 i0 _ 5 48 Tryz.underlying66 hi0 hz0 hz1 hz2 rfl (by decide) _ M _ (by rfl) HW6.out ⟨W.heap.size, 0, none⟩ 1 1 [_, _, _, _, _] (by rfl) (by rfl) (five_at (Blk.new W.drew _ _)) (by simp [Value.oneCell']) (by omega) (by unfold maxLen; omega) (by omega) (by simp) (W.heap.size + 1) (by simp) ?_; intro gg cap w7 hown7 hgrow7 hat7 hlt7; have hB7 := HBP.out.grown hgrow7 HPL.out; have hc7 := hB7.cell; have hf7 := hB7.frozen; unfold refCells at hc7))
    all_goals go_wp2_with fail
    all_goals go_meet
    all_goals exact ⟨_, push_ino HS.out HM.out (by assumption) (by rw [HIV.out]; assumption) (by rw [HIV.out]; assumption)⟩
  case rest =>
    obtain ⟨G1, hS1⟩ := hcut; have HS1 := Lib.hid hS1; obtain ⟨pn, cn, hnv, hnc, hnm, hnr⟩ := own_at hS1.1.names; obtain ⟨p2, c2, hiv2, -, -, -⟩ := own_at hS1.1.inos; obtain ⟨N, hNN⟩ : ∃ N, E.names.length = N := ⟨_, rfl⟩
    have HN := Lib.hid hNN; dsimp only at hnv hnc hnr hiv2; rw [List.length_append, HM.out] at hiv2; have hiv2 : G1.iv = .slice p2 (M + 1) c2 := hiv2
    rw [hNN] at hnv hnc hnr hn; have hlp1 := hS1.1.blk.lt; have HNV := Lib.hid hnv; have HC8 := Lib.hid (show ∀ W8, Off [] wc W8 → W8.cell? ⟨p, 0, none⟩ = some (.slice pn N cn) ∧ W8.cell? ⟨p, 3, none⟩ = some (.slice p2 (M + 1) c2) from fun W8 h => by
      have h1 := (HS1.out.1.off_nil h).blk.cell; refine ⟨(h1 0).trans ?_, (h1 3).trans ?_⟩
      · rw [← hnv]; rfl
      rw [← hiv2]; rfl)
    have hc1 := HC8.out wc (Off.refl _ _); have HEL := Lib.hid (show (entCells E.names).length = N * 2 by rw [ent_len, hNN]); have O1 := Lib.hid ((Off.refl [] wc).drew.alloc (.cells #[] 127)); have O2 := Lib.hid (((Off.refl [] wc).drew.alloc (.cells #[] 127)).alloc (.cells #[.string path, .int .i64 (M + 1 : Nat)] 127))
    have O3 := Lib.hid (((Off.refl [] wc).drew.alloc (.cells #[.string path, .int .i64 (M + 1 : Nat)] 127)).alloc (.cells #[] 127)); have A1 := Lib.hid (own_empty wc.drew wc.heap.size 127 2 (Nat.le_refl _)); have A2 := Lib.hid ((own_empty wc.drew wc.heap.size 127 2 (Nat.le_refl _)).alloc (.cells #[.string path, .int .i64 (M + 1 : Nat)] 127))
    have A3 := Lib.hid (show ((wc.drew.alloc (.cells #[.string path, .int .i64 (M + 1 : Nat)] 127)).alloc (.cells #[] 127)).ownsRow wc.heap.size 127 2 (.slice (some ⟨wc.heap.size + 1, 0, none⟩) 0 0) 0 [] from by
      have := own_empty (wc.drew.alloc (.cells #[.string path, .int .i64 (M + 1 : Nat)] 127)) wc.heap.size 127 2 (by simp)
      simpa using this)
    have B2 := Lib.hid (show Blk ((wc.drew.alloc (.cells #[] 127)).alloc (.cells #[.string path, .int .i64 (M + 1 : Nat)] 127)) (wc.heap.size + 1) 127 #[.string path, .int .i64 (M + 1 : Nat)] from by
      have := Blk.new (wc.drew.alloc (.cells #[] 127)) 127 #[.string path, .int .i64 (M + 1 : Nat)]
      simpa using this)
    have B3 := Lib.hid (show Blk ((wc.drew.alloc (.cells #[.string path, .int .i64 (M + 1 : Nat)] 127)).alloc (.cells #[] 127)) wc.heap.size 127 #[.string path, .int .i64 (M + 1 : Nat)] from (Blk.new wc.drew 127 _).alloc _); have HSS := Lib.hid (show ∀ x ∈ E.names ++ [(path, M + 1)], x.1.size ≤ 1048576 from fun x hx => by
      rcases List.mem_append.1 hx with hx | hx
      · exact hs x hx
      simp at hx; subst hx; exact hp)
    have HLL := Lib.hid hll; have HEN := Lib.hid (show ∀ (W9 : World) (v9 : Value), W9.ownsRow wc.heap.size 127 2 v9 (N + 1) (entCells E.names ++ [.string path, .int .i64 (M + 1 : Nat)]) → EntAt W9 v9 (E.names ++ [(path, M + 1)]) from fun W9 v9 h => by
      unfold EntAt; rw [entCells_snoc, List.length_append, HN.out]; exact own_base h (Nat.zero_le _))
    clear hcb hlb hc hf hlp HW6 HPL HBP hS1 hnv hiv2 hNN hs hp hll
    rcases pn with _ | a
    · obtain rfl : 0 = N := by
        rcases Nat.eq_zero_or_pos N with h | h
        · exact h.symm
        obtain ⟨g, h1, -⟩ := hnr h
        cases h1
      have hcn : cn = 0 := by
        rcases HS1.out.1.names.2 with ⟨h1, -⟩ | ⟨g, cap, cur, h1, -⟩
        · rw [HNV.out] at h1; injection h1
        rw [HNV.out] at h1; injection h1 with h1; cases h1
      subst hcn; have HEN0 := Lib.hid (show ∀ (W9 : World) (v9 : Value), W9.ownsRow wc.heap.size 127 2 v9 (0 + 1) ([] ++ [.string path, .int .i64 (M + 1 : Nat)]) → EntAt W9 v9 (E.names ++ [(path, M + 1)]) from fun W9 v9 h => HEN.out W9 v9 (by
        rw [List.length_eq_zero_iff.1 HN.out]; exact h))
      clear hnr
      go_wp2_with fail
      go_region_law ((first
      | (refine step_append_own7 (by rfl) _ _ _ (by rfl) wc.heap.size 127 i1 _ 2 24 Tryz.underlying64 hi1 hy0 hy1 hy2 rfl (by decide) _ 0 [] (by rfl) A2.out ⟨wc.heap.size + 1, 0, none⟩ 1 1 [.string path, .int .i64 (M + 1 : Nat)] (by rfl) (by rfl) (cell_two_at B2.out) (by simp [Value.oneCell']) (by unfold maxLen; omega) (by omega) (by simp <;> omega) ?_; intro v9 W9 hown9 hgrow9 _; have hO9 := own_grown O2.out A2.out hgrow9; have HO9 := Lib.hid hO9; have HW9 := Lib.hid hown9; clear hown9 hgrow9)
      | (refine step_append_own7 (by rfl) _ _ _ (by rfl) wc.heap.size 127 i1 _ 2 24 Tryz.underlying64 hi1 hy0 hy1 hy2 rfl (by decide) _ 0 [] (by rfl) A3.out ⟨wc.heap.size, 0, none⟩ 1 1 [.string path, .int .i64 (M + 1 : Nat)] (by rfl) (by rfl) (cell_two_at B3.out) (by simp [Value.oneCell']) (by unfold maxLen; omega) (by omega) (by simp <;> omega) ?_; intro v9 W9 hown9 hgrow9 _; have hO9 := own_grown O3.out A3.out hgrow9; have HO9 := Lib.hid hO9; have HW9 := Lib.hid hown9; clear hown9 hgrow9)
      | (go_simp; refine (r7changed_any p G1 { E with inos := E.inos ++ [n] } v9 (E.names ++ [(path, M + 1)]) W9 (HS1.out.1.off_nil HO9.out) (HEN0.out _ _ HW9.out) (by rw [List.length_append, HN.out]; simp) HSS.out HLL.out).mono ?_; rintro e w' ⟨rfl, hT⟩)))
      all_goals go_wp2_with fail
      all_goals refine bodyPost_end (results_none rfl _ _ _) rfl ⟨rfl, ?_⟩
      all_goals exact RefTo.next (HS1.out.off HO9.out).2.1 (HS1.out.off HO9.out).2.2 hT
    have CN := Lib.hid (show ∀ W8, Off [] wc W8 → ∀ j u, (entCells E.names)[j]? = some u → W8.cell? (a.add j) = some u from fun W8 h j u hj => by
      have hlt := (List.getElem?_eq_some_iff.1 hj).1; obtain ⟨g, h1, -, h3, -, h5⟩ := hnr (by have := HEL.out; omega); injection h1 with h1
      subst h1; rw [addr_add]; exact (h.cell (p := ⟨g, _, none⟩) h3 (by simp)).trans (by simpa using h5 j u hj))
    clear hnr
    go_wp2_with fail
    go_region_law ((first
    | (refine step_append_own7 (by rfl) _ _ _ (by rfl) wc.heap.size 127 i1 _ 2 24 Tryz.underlying64 hi1 hy0 hy1 hy2 rfl (by decide) _ 0 [] (by rfl) A1.out a N cn (entCells E.names) (by rfl) HEL.out (CN.out _ O1.out) ent_one (by unfold maxLen; omega) (by omega) (by simp <;> omega) ?_; intro v8 W8 hown8 hgrow8 _; obtain ⟨pp, cc, e8, -, -, -⟩ := own_at hown8; rw [Nat.zero_add] at e8; subst e8; have hO8 := own_grown O1.out A1.out hgrow8; have HO8 := Lib.hid hO8; have hc8 := HC8.out _ hO8; have hlp8 := Nat.lt_of_lt_of_le hlp1 hO8.size; have HW8 := Lib.hid (show W8.ownsRow wc.heap.size 127 2 (.slice pp N cc) N (entCells E.names) from (by simpa using hown8)); skip; clear hown8 hgrow8)
    | (refine step_append_own7 (by rfl) _ _ _ (by rfl) wc.heap.size 127 i1 _ 2 24 Tryz.underlying64 hi1 hy0 hy1 hy2 rfl (by decide) _ 0 [] (by rfl) A2.out a N cn (entCells E.names) (by rfl) HEL.out (CN.out _ O2.out) ent_one (by unfold maxLen; omega) (by omega) (by simp <;> omega) ?_; intro v8 W8 hown8 hgrow8 _; obtain ⟨pp, cc, e8, -, -, -⟩ := own_at hown8; rw [Nat.zero_add] at e8; subst e8; have hO8 := own_grown O2.out A2.out hgrow8; have HO8 := Lib.hid hO8; have hc8 := HC8.out _ hO8; have hlp8 := Nat.lt_of_lt_of_le hlp1 hO8.size; have HW8 := Lib.hid (show W8.ownsRow wc.heap.size 127 2 (.slice pp N cc) N (entCells E.names) from (by simpa using hown8)); have HB8 := Lib.hid (B2.out.grown hgrow8 (fun e => by have e : some (wc.heap.size + 1) = some wc.heap.size := e; simp at e)); clear hown8 hgrow8)
    | (refine step_append_own7 (by rfl) _ _ _ (by rfl) wc.heap.size 127 i1 _ 2 24 Tryz.underlying64 hi1 hy0 hy1 hy2 rfl (by decide) _ 0 [] (by rfl) A3.out a N cn (entCells E.names) (by rfl) HEL.out (CN.out _ O3.out) ent_one (by unfold maxLen; omega) (by omega) (by simp <;> omega) ?_; intro v8 W8 hown8 hgrow8 _; obtain ⟨pp, cc, e8, -, -, -⟩ := own_at hown8; rw [Nat.zero_add] at e8; subst e8; have hO8 := own_grown O3.out A3.out hgrow8; have HO8 := Lib.hid hO8; have hc8 := HC8.out _ hO8; have hlp8 := Nat.lt_of_lt_of_le hlp1 hO8.size; have HW8 := Lib.hid (show W8.ownsRow wc.heap.size 127 2 (.slice pp N cc) N (entCells E.names) from (by simpa using hown8)); have HB8 := Lib.hid (B3.out.grown hgrow8 (fun e => by have e : some wc.heap.size = some (wc.heap.size + 1) := e; simp at e)); clear hown8 hgrow8)
    | (refine step_append_own7 (by rfl) _ _ _ (by rfl) wc.heap.size 127 i1 _ 2 24 Tryz.underlying64 hi1 hy0 hy1 hy2 rfl (by decide) _ N (entCells E.names) (by rfl) (HW8.out.alloc _) ⟨W8.heap.size, 0, none⟩ 1 1 [.string path, .int .i64 (M + 1 : Nat)] (by rfl) (by rfl) (cell_two_at (Blk.new W8 _ _)) (by simp [Value.oneCell']) (by unfold maxLen; omega) (by omega) (by have := HO8.out.size; simp; omega) ?_; intro v9 W9 hown9 hgrow9 _; have hO9 := own_grown (HO8.out.alloc _) (HW8.out.alloc _) hgrow9; have HO9 := Lib.hid hO9; have HW9 := Lib.hid hown9; clear hown9 hgrow9)
    | (refine step_append_own7 (by rfl) _ _ _ (by rfl) wc.heap.size 127 i1 _ 2 24 Tryz.underlying64 hi1 hy0 hy1 hy2 rfl (by decide) _ N (entCells E.names) (by rfl) HW8.out ⟨wc.heap.size + 1, 0, none⟩ 1 1 [.string path, .int .i64 (M + 1 : Nat)] (by rfl) (by rfl) (cell_two_at HB8.out) (by simp [Value.oneCell']) (by unfold maxLen; omega) (by omega) (by have := HO8.out.size; simp; omega) ?_; intro v9 W9 hown9 hgrow9 _; have hO9 := own_grown HO8.out HW8.out hgrow9; have HO9 := Lib.hid hO9; have HW9 := Lib.hid hown9; clear hown9 hgrow9)
    | (refine step_append_own7 (by rfl) _ _ _ (by rfl) wc.heap.size 127 i1 _ 2 24 Tryz.underlying64 hi1 hy0 hy1 hy2 rfl (by decide) _ N (entCells E.names) (by rfl) HW8.out ⟨wc.heap.size, 0, none⟩ 1 1 [.string path, .int .i64 (M + 1 : Nat)] (by rfl) (by rfl) (cell_two_at HB8.out) (by simp [Value.oneCell']) (by unfold maxLen; omega) (by omega) (by have := HO8.out.size; simp; omega) ?_; intro v9 W9 hown9 hgrow9 _; have hO9 := own_grown HO8.out HW8.out hgrow9; have HO9 := Lib.hid hO9; have HW9 := Lib.hid hown9; clear hown9 hgrow9)
    | (go_simp; refine (r7changed_any p G1 { E with inos := E.inos ++ [n] } v9 (E.names ++ [(path, M + 1)]) W9 (HS1.out.1.off_nil HO9.out) (HEN.out _ _ HW9.out) (by rw [List.length_append, HN.out]; simp; omega) HSS.out HLL.out).mono ?_; rintro e w' ⟨rfl, hT⟩)))
    all_goals go_wp2_with fail
    all_goals refine bodyPost_end (results_none rfl _ _ _) rfl ⟨rfl, ?_⟩
    all_goals exact RefTo.next (HS1.out.off HO9.out).2.1 (HS1.out.off HO9.out).2.2 hT
end
section
open Go.RowKit Go.Op Go.Maps
end
section
open Go.RowKit Go.Op Go.Maps
end
section
open Go.RowKit Go.Op Go.Maps
def Kept (k : List Nat) (w w' : World) : Prop := ∀ b ∈ k, w'.heap[b]? = w.heap[b]?
section
variable {w0 wr w w' : World} {p n : Nat} {D : PDisk} {k : List Nat}
theorem Kept.blk {b : Nat} {t : TypeId} {cs : Array Value} (h : Kept k w w') (hB : Blk w b t cs) (hb : b ∈ k) : Blk w' b t cs := by
  unfold Blk at hB ⊢; rw [h b hb]; exact hB
theorem Kept.row {base e sz m : Nat} {v : Value} {xs : List Value} (h : Kept k w w') (hr : w.ownsRow base e sz v m xs) (hb : ∀ b ∈ v.ownBlock.toList, b ∈ k) : w'.ownsRow base e sz v m xs := by
  refine ⟨hr.1, ?_⟩
  rcases hr.2 with h1 | ⟨g, cap, cur, h1, h2, h3, h4⟩
  · exact .inl h1
  exact .inr ⟨g, cap, cur, h1, h2, (h g (hb g (by rw [h1]; simp [Value.ownBlock]))).trans h3, h4⟩
theorem Kept.trans {w2 : World} (h : Kept k w w') (h2 : Kept k w' w2) : Kept k w w2 := fun b hb => (h2 b hb).trans (h b hb)
end
end
section
open Go.RowKit Go.Op Go.Maps
structure AskA where
  err : Int
  node : Node
  ino : Int
  size : Int
  time : Int
  names : List ByteArray
def zeroA (e : Int) : AskA := ⟨e, ⟨⟨#[]⟩, 0, ⟨#[]⟩, 0⟩, 0, 0, 0, []⟩
def askE (D : PDisk) (c : CallP) : AskA × PDisk :=
  if c.what = 0 then (zeroA (D.edited.write c.path c.data c.mode).1, (D.edited.write c.path c.data c.mode).2) else if c.what = 1 then (zeroA (D.edited.mkdir c.path).1, (D.edited.mkdir c.path).2) else if c.what = 2 then (zeroA (D.edited.link c.path c.to_).1, (D.edited.link c.path c.to_).2) else if c.what = 3 then (zeroA (D.edited.remove c.path).1, (D.edited.remove c.path).2)
  else if c.what = 4 then (zeroA (D.edited.move c.path c.to_).1, (D.edited.move c.path c.to_).2) else if c.what = 5 then (zeroA (D.edited.replace c.path c.to_).1, (D.edited.replace c.path c.to_).2) else if c.what = 6 then (zeroA (D.edited.sync c.path).1, (D.edited.sync c.path).2) else if c.what = 7 then (zeroA D.edited.flush.1, D.edited.flush.2)
  else if c.what = 8 then (⟨(D.edited.get c.path).1.1, (D.edited.get c.path).1.2.1, (D.edited.get c.path).1.2.2.1, (D.edited.get c.path).1.2.2.2.1, (D.edited.get c.path).1.2.2.2.2, []⟩, (D.edited.get c.path).2) else if c.what = 9 then (⟨(D.edited.namesC c.path).1.2, ⟨⟨#[]⟩, 0, ⟨#[]⟩, 0⟩, 0, 0, 0, (D.edited.namesC c.path).1.1⟩, (D.edited.namesC c.path).2) else if c.what = 10 then (zeroA 0, D.boot []) else (zeroA 0, D)
end
section
open Go.RowKit Go.Op Go.Maps
end
section
open Go.RowKit Go.Op Go.Maps
def RunE (w0 w : World) (p : Nat) (D : PDisk) (n : Nat) (k : List Nat) : Prop :=
  ∃ G, DSE w p G D n ∧ Off [] w0 w ∧ w0.heap.size ≤ p ∧ (∀ b ∈ G.parts, w0.heap.size ≤ b) ∧ ∀ b ∈ k, b < w.heap.size ∧ b ∉ p :: G.parts
section
variable {w0 wr w w' : World} {p n : Nat} {D : PDisk} {k : List Nat}
theorem Run.e (h : Run w0 w p D n) : RunE w0 w p D n [] := by
  obtain ⟨G, h1, h2, h3, h4⟩ := h; exact ⟨G, h1.e, h2, h3, h4, fun b hb => by cases hb⟩
theorem RunE.more {k' : List Nat} (h : RunE w0 wr p D n k) (ho : Off [] wr w) (hk : ∀ b ∈ k', wr.heap.size ≤ b ∧ b < w.heap.size) : RunE w0 w p D n (k' ++ k) := by
  obtain ⟨G, h1, h2, h3, h4, h5⟩ := h; refine ⟨G, h1.off ho, h2.trans_nil ho, h3, h4, fun b hb => ?_⟩
  rcases List.mem_append.1 hb with hb | hb
  · refine ⟨(hk b hb).2, fun hm => ?_⟩
    have h6 := (hk b hb).1
    rcases List.mem_cons.1 hm with rfl | hm
    · have := h1.m.blk.lt; omega
    have := h1.m.parts.lt hm; omega
  have h6 := h5 b hb; exact ⟨Nat.lt_of_lt_of_le h6.1 ho.size, h6.2⟩
theorem RunE.off (h : RunE w0 w p D n k) (ho : Off [] w w') : RunE w0 w' p D n k := h.more (k' := []) ho (fun b hb => by cases hb)
theorem RunE.since (h : RunE w0 w p D n k) : Off [] w0 w := by obtain ⟨_, _, h2, _⟩ := h; exact h2
theorem RunE.le {m : Nat} (h : RunE w0 w p D n k) (hm : n ≤ m) : RunE w0 w p D m k := by
  obtain ⟨G, h1, h2⟩ := h; exact ⟨G, ⟨h1.m, h1.sb, PDisk.ok_mono h1.ok hm, h1.tabs⟩, h2⟩
theorem RunE.ok (h : RunE w0 w p D n k) : Ok D n := by obtain ⟨G, h1, -⟩ := h; exact h1.ok
theorem RunE.drop {k' : List Nat} (h : RunE w0 w p D n k) (hk : ∀ b ∈ k', b ∈ k) : RunE w0 w p D n k' := by
  obtain ⟨G, h1, h2, h3, h4, h5⟩ := h; exact ⟨G, h1, h2, h3, h4, fun b hb => h5 b (hk b hb)⟩
theorem RunE.to_ {G : Geo} {D' : PDisk} {n' : Nat} (h1 : DSE w p G D n) (h2 : Off [] w0 w) (h3 : w0.heap.size ≤ p) (h4 : ∀ b ∈ G.parts, w0.heap.size ≤ b) (h5 : ∀ b ∈ k, b < w.heap.size ∧ b ∉ p :: G.parts) (hT : DSETo w p G.parts w' D' n') : RunE w0 w' p D' n' k ∧ Kept k w w' := by
  obtain ⟨G2, k1, k2, k3⟩ := hT; refine ⟨⟨G2, k1, h2.trans k2 (fun x hx hm => ?_), h3, fun b hb => ?_, fun b hb => ?_⟩, fun b hb => k2.block b (h5 b hb).1 (h5 b hb).2⟩
  · exfalso
    rcases List.mem_cons.1 hm with rfl | hm
    · omega
    have := h4 x hm; omega
  · rcases k3 b hb with h | h
    · exact h4 b h
    exact Nat.le_trans h2.size h
  obtain ⟨a1, a2⟩ := h5 b hb; refine ⟨Nat.lt_of_lt_of_le a1 k2.size, fun hm => ?_⟩
  rcases List.mem_cons.1 hm with rfl | hm
  · exact a2 (List.mem_cons_self ..)
  rcases k3 b hm with h | h
  · exact a2 (List.mem_cons_of_mem _ h)
  omega
theorem RunE.call {f : FuncId} {args : Array Value} {R : Ending → World → Prop} {D' : PDisk} {n' : Nat} (h : RunE w0 w p D n k) (hc : ∀ G, DSE w p G D n → Calls Tryz.prog f args w fun e w' => R e w' ∧ DSETo w p G.parts w' D' n') :
    Calls Tryz.prog f args w fun e w' => R e w' ∧ RunE w0 w' p D' n' k ∧ Kept k w w' := by
  obtain ⟨G, h1, h2, h3, h4, h5⟩ := h; exact (hc G h1).mono fun e w' ⟨he, hT⟩ => ⟨he, RunE.to_ h1 h2 h3 h4 h5 hT⟩
theorem runE_boot (h : RunE w0 w p D n k) (fp ep : Option Addr) (fs : List FateP) (es : List EditP) (nf c ne ce : Nat) (hF : FRow w fp fs) (hn : fs.length = nf) (hb : nf ≤ 4398046511103) (hpn : fp = none → fs = [])
    (hER : ERow w0 ep es) (hne : es.length = ne) (hnb : ne ≤ 1000000) (hvl : ∀ e ∈ es, e.value.length ≤ 2932031007402 ∧ Fits e.value) :
    Calls Tryz.prog 15 #[.pointer (some ⟨p, 0, none⟩), .slice fp nf c, .slice ep ne ce] w fun e w' => e = .returned (.tuple #[]) ∧ ∃ ev, RunE w0 w' p (D.bootE fs es ev) n k ∧ Kept k w w' := by
  obtain ⟨G, h1, h2, h3, h4, h5⟩ := h; refine (dboot_callE p n G D fp ep fs es nf c ne ce w h1 hF hn hb hpn (fun W hW => hER.off (h2.trans hW (fun x hx hm => ?_))) hne hnb hvl).mono fun e w' ⟨he, ev, hT⟩ => ⟨he, ev, RunE.to_ h1 h2 h3 h4 h5 hT⟩
  exfalso
  rcases List.mem_cons.1 hm with rfl | hm
  · omega
  have := h4 x hm; omega
theorem askE_eq (D : PDisk) (c : CallP) : (askE D c).2 = askD D.edited c ∨ (askE D c).2 = D.boot [] ∨ (askE D c).2 = D := by
  unfold askE askD
  by_cases h0 : c.what = 0; · rw [if_pos h0, if_pos h0]; exact .inl rfl
  rw [if_neg h0, if_neg h0]
  by_cases h1 : c.what = 1; · rw [if_pos h1, if_pos h1]; exact .inl rfl
  rw [if_neg h1, if_neg h1]
  by_cases h2 : c.what = 2; · rw [if_pos h2, if_pos h2]; exact .inl rfl
  rw [if_neg h2, if_neg h2]
  by_cases h3 : c.what = 3; · rw [if_pos h3, if_pos h3]; exact .inl rfl
  rw [if_neg h3, if_neg h3]
  by_cases h4 : c.what = 4; · rw [if_pos h4, if_pos h4]; exact .inl rfl
  rw [if_neg h4, if_neg h4]
  by_cases h5 : c.what = 5; · rw [if_pos h5, if_pos h5]; exact .inl rfl
  rw [if_neg h5, if_neg h5]
  by_cases h6 : c.what = 6; · rw [if_pos h6, if_pos h6]; exact .inl rfl
  rw [if_neg h6, if_neg h6]
  by_cases h7 : c.what = 7; · rw [if_pos h7, if_pos h7]; exact .inl rfl
  rw [if_neg h7, if_neg h7]
  by_cases h8 : c.what = 8; · rw [if_pos h8, if_pos h8]; exact .inl rfl
  rw [if_neg h8, if_neg h8]
  by_cases h9 : c.what = 9; · rw [if_pos h9, if_pos h9]; exact .inl rfl
  rw [if_neg h9, if_neg h9]
  by_cases h10 : c.what = 10
  · rw [if_pos h10]; exact .inr (.inl rfl)
  rw [if_neg h10]; exact .inr (.inr rfl)
theorem fine_boot (h : Fine D n) : Fine (D.boot []) n := ⟨PDisk.boot_ok h.ok [] (by decide), h.good.of (h.good.tree.of rfl rfl rfl (KS.of_inos rfl)) rfl rfl rfl, h.light.same rfl⟩
theorem edited_edits (D : PDisk) : D.edited.edits = D.edits := by
  cases ho : D.off
  · obtain ⟨-, -, -, -, k5, -⟩ := edits_keep (D.trace.length : Int) D.edits D
    unfold PDisk.edited; rw [ho]; exact k5
  rw [edited_off ho]
theorem askD_edits (D : PDisk) (c : CallP) : (askD D c).edits = D.edits ∨ (askD D c).edits = [] := by
  unfold askD
  split; · exact .inl (write_edits _ _ _ _)
  split; · exact .inl (mkdir_edits _ _)
  split; · exact .inl (link_edits _ _ _)
  split; · exact .inl (remove_edits _ _)
  split; · exact .inl (move_edits _ _ _)
  split; · exact .inl (replace_edits _ _ _)
  split; · exact .inl (sync_edits _ _)
  split; · exact .inl (flush_edits _)
  split; · exact .inl (get_edits _ _)
  split; · exact .inl (names_edits _ _)
  split; · exact .inr rfl
  exact .inl rfl
end
end
section
open Go.RowKit Go.Op Go.Maps
section
variable {w0 w w' : World} {p n C : Nat} {D : PDisk} {k : List Nat}
def EdC (C : Nat) (D : PDisk) : Prop := costE D.edits ≤ C ∧ ∀ e ∈ D.edits, Fits e.value
theorem EdC.eok (h : EdC C D) (hf : Fine D n) : EditsOk D (n + C) := ⟨fun i => PDisk.ok_mono ((hf.eokC h.2).ok i) (by have := h.1; omega), (hf.eokC h.2).light⟩
theorem EdC.edited (h : EdC C D) (hf : Fine D n) : Fine D.edited (n + C) := (hf.editedC h.2).mono (by have := h.1; omega)
theorem runC_tree (h : RunE w0 w p D n k) (hn : n ≤ 40000000) :
    Calls Tryz.prog 24 #[.pointer (some ⟨p, 0, none⟩)] w fun e w' => (∃ v, e = .returned v ∧ w'.ownsRow w.heap.size 30 4 v D.tree.length (cellsOf D.tree)) ∧ RunE w0 w' p D n k ∧ Off [] w w' := by
  have h' := h; obtain ⟨G, h1, -⟩ := h; exact (dtree_callE p n G D w h1 (by omega)).mono fun e w' ⟨v, he, hr, ho⟩ => ⟨⟨v, he, hr⟩, h'.off ho, ho⟩
theorem EdC.of {E : PDisk} (h : EdC C D) (he : E.edits = D.edits ∨ E.edits = []) : EdC C E := by
  rcases he with e | e
  · exact ⟨by rw [e]; exact h.1, by rw [e]; exact h.2⟩
  exact ⟨by rw [e]; exact Nat.zero_le _, by rw [e]; intro x hx; cases hx⟩
theorem fineC_ask {m : Nat} (h : Fine D n) (hd : EdC C D) (c : CallP) (hz1 : c.data.size ≤ maxLen) (hz2 : c.to_.size ≤ maxLen) (hk : Ok (askE D c).2 m) : Fine (askE D c).2 m := by
  have he := hd.edited h; refine ⟨hk, ?_, ?_⟩
  · rcases askE_eq D c with e | e | e <;> rw [e]
    · exact he.good.ask he.ok c
    · exact (fine_boot h).good
    exact h.good
  rcases askE_eq D c with e | e | e <;> rw [e]
  · exact he.light.ask c hz1 hz2
  · exact (fine_boot h).light
  exact h.light
end
end
section
open Go.RowKit Go.Op Go.Maps
theorem Apart.perm7 {l m : NameL} (ha : Apart l) (h : l.Perm m) : Apart m := (h.pairwise_iff (fun h e => h e.symm)).1 ha
theorem sortN_perm (l : NameL) : (PDisk.sortN l).Perm l := by unfold PDisk.sortN; exact List.mergeSort_perm l _
theorem Apart.sortN {l : NameL} (ha : Apart l) : Apart (PDisk.sortN l) := ha.perm7 (sortN_perm l).symm
theorem sortN_of_perm {l m : NameL} (h : l.Perm m) (ha : Apart m) : PDisk.sortN l = PDisk.sortN m := by
  refine List.Perm.eq_of_pairwise (le := fun a b => leN a b = true) (fun a b ha' hb' h3 h4 => ?_) (List.pairwise_mergeSort leN_trans leN_total l) (List.pairwise_mergeSort leN_trans leN_total m) (((sortN_perm l).trans h).trans (sortN_perm m).symm)
  have hab : order (str a.1) (str b.1) = 0 := by
    unfold leN at h3 h4; simp only [Bool.not_eq_true', decide_eq_false_iff_not] at h3 h4; rw [order_swap] at h3
    rcases order_range (str a.1) (str b.1) with h | h | h <;> omega
  exact ha.one (h.subset (List.mem_mergeSort.1 ha')) (List.mem_mergeSort.1 hb') (str_inj (order_eq hab))
theorem hasN_perm7 {l m : NameL} (h : l.Perm m) (p : ByteArray) : hasN l p = hasN m p := by
  cases hm : hasN m p
  · refine hasN_false fun x hx e => ?_
    have := (hasN_iff _ _).2 ⟨x, h.subset hx, e⟩; rw [hm] at this
    cases this
  obtain ⟨x, hx, e⟩ := (hasN_iff _ _).1 hm; exact (hasN_iff _ _).2 ⟨x, h.symm.subset hx, e⟩
theorem lookN_perm7 {l m : NameL} (ha : Apart l) (h : l.Perm m) (p : ByteArray) : lookN l p = lookN m p := by
  cases hm : hasN m p
  · rw [lookN_no hm, lookN_no ((hasN_perm7 h p).trans hm)]
  obtain ⟨x, hx, rfl⟩ := (hasN_iff _ _).1 hm; rw [lookN_mem (ha.perm7 h) hx, lookN_mem ha (h.symm.subset hx)]
def norm (D : PDisk) : PDisk := { D with names := PDisk.sortN D.names, safe := PDisk.sortN D.safe, later := D.later.map PDisk.sortN }
section
variable {D : PDisk} {n : Nat}
theorem norm_tree : rtree (norm D) = D.tree := rfl
theorem norm_at (ha : Apart D.names) (p : ByteArray) : (norm D).at_ p = D.at_ p := by
  show (norm D).inode (lookN (PDisk.sortN D.names) p) = D.inode (lookN D.names p)
  rw [lookN_perm7 ha.sortN (sortN_perm _)]
  rfl
theorem norm_dir (ha : Apart D.names) (p : ByteArray) : (norm D).dir p = D.dir p := by
  unfold PDisk.dir; rw [norm_at ha]
theorem norm_nok (h : NOk D.inos.length D.names) (ha : Apart D.names) : NOk (norm D).inos.length (norm D).names := fun x => by
  show lookN (PDisk.sortN D.names) x ≤ D.inos.length ∧ (hasN (PDisk.sortN D.names) x = true → 1 ≤ lookN (PDisk.sortN D.names) x ∧ _)
  rw [lookN_perm7 ha.sortN (sortN_perm _), hasN_perm7 (sortN_perm _)]; exact h x
theorem norm_crash (f : FateP) : norm (D.crash f) = (norm D).crash f := by
  have h : PDisk.sortN (rcrashN D f) = rcrashN (norm D) f := by
    unfold rcrashN norm; dsimp only; rw [List.length_map, List.getElem?_map]
    cases D.later[(min f.keep (D.later.length : Int)).toNat - 1]? with
    | none => rfl
    | some l =>
      dsimp only [Option.map]
      split <;> rfl
  rw [crash_eq, crash_eq]; unfold norm at h ⊢; dsimp only at h ⊢; rw [h]
  rfl
theorem norm_change {l m : NameL} (h : m.Perm l) (ha : Apart l) : norm (D.change l) = { norm D with names := sortI m, later := (norm D).later ++ [sortI m] } := by
  rw [sortI_eq (ha.perm7 h.symm), sortN_of_perm h ha]; unfold norm PDisk.change; dsimp only; rw [List.map_append]
  rfl
theorem norm_flush : norm D.flush_ = { norm D with safe := (norm D).names, later := [] } := rfl
theorem norm_del (p : ByteArray) : (delN (norm D).names p).Perm (delN D.names p) := (sortN_perm D.names).filter _
end
end
section
open Go.RowKit Go.Op Go.Maps
section
variable {D : PDisk}
theorem norm_lay (ha : Apart D.names) {p : ByteArray} (hp : hasN D.names p = false) (n : Node) (t : Int) (b : Bool) : norm ((D.make n t b).change (putN D.names p (D.inos.length + 1))) =
    { norm D with inos := (norm D).inos ++ [⟨n, t, b⟩], names := sortI ((norm D).names ++ [(p, (norm D).inos.length + 1)]), later := (norm D).later ++ [sortI ((norm D).names ++ [(p, (norm D).inos.length + 1)])] } := by
  have hput : putN D.names p (D.inos.length + 1) = D.names ++ [(p, D.inos.length + 1)] := by unfold putN; rw [hp]; rfl
  have hap : Apart (D.names ++ [(p, D.inos.length + 1)]) := by
    unfold Apart; rw [List.pairwise_append]; refine ⟨ha, List.pairwise_singleton _ _, fun x hx y hy e => ?_⟩; simp at hy; subst hy; have := (hasN_iff D.names p).2 ⟨x, hx, e⟩; rw [hp] at this
    cases this
  rw [hput, norm_change (D := D.make n t b) (m := PDisk.sortN D.names ++ [(p, D.inos.length + 1)]) ((sortN_perm D.names).append_right _) hap]
  rfl
theorem norm_remove (ha : Apart D.names) (p : ByteArray) : norm (D.change (delN D.names p)) =
    { norm D with names := sortI (delN (norm D).names p), later := (norm D).later ++ [sortI (delN (norm D).names p)] } :=
  norm_change (norm_del p) (List.Pairwise.filter _ ha)
end
end
section
open Go.RowKit Go.Op Go.Maps
variable {A : RArg}
structure RFacts (E : PDisk) : Prop where
  nok : NOk E.inos.length E.names
  nl : E.names.length ≤ 1000
  ll : E.later.length ≤ 100000000
  il : E.inos.length ≤ 100000000
  cl : E.clock ≤ 100000000
  tl : E.trace.length ≤ 100000000
  fl : E.fates.length ≤ 5000000000000
  ds : ∀ m ∈ E.inos, m.node.data.size ≤ maxLen
theorem RFacts.sz {E : PDisk} (h : RFacts E) : ∀ x ∈ E.names, x.1.size ≤ 1048576 := fun x hx => by
  have := ((h.nok x.1).2 ((hasN_iff _ _).2 ⟨x, hx, rfl⟩)).2; omega
theorem Fine.facts {D : PDisk} {n : Nat} (h : Fine D n) (hn : n ≤ 90000000) : RFacts (norm D) where
  nok := norm_nok h.ok.names h.good.names
  nl := by
    show (PDisk.sortN D.names).length ≤ 1000
    rw [sortN_len]; exact h.ok.nlen
  ll := by
    show (D.later.map PDisk.sortN).length ≤ _
    rw [List.length_map]; have := h.ok.llen; omega
  il := by have := h.ok.inos; show D.inos.length ≤ _; omega
  cl := by have := h.ok.clock; show D.clock ≤ _; omega
  tl := by have := h.ok.tlen; show D.trace.length ≤ _; omega
  fl := h.ok.fates
  ds := h.light
theorem first_cases {E : PDisk} (hK : NOk E.inos.length E.names) (path : ByteArray) : (E.at_ path = none ∧ firstI E.names path = -1) ∨ ∃ i j m, E.at_ path = some m ∧ firstI E.names path = (i : Nat) ∧ E.names[i]? = some (path, j + 1) ∧ lookN E.names path = j + 1 ∧ E.inos[j]? = some m := by
  cases hf : firstN E.names path with
  | none => exact .inl ⟨first_none hf, by unfold firstI; rw [hf]⟩
  | some i =>
    obtain ⟨j, m, h1, h2, h3, h4⟩ := first_ino hK hf; exact .inr ⟨i, j, m, h4, by unfold firstI; rw [hf], h1, h2, h3⟩
def rwith (E : PDisk) (path : ByteArray) (n : Ino) : PDisk :=
  { E with inos := E.inos ++ [n], names := sortI (E.names ++ [(path, E.inos.length + 1)]), later := E.later ++ [sortI (E.names ++ [(path, E.inos.length + 1)])] }
theorem RefTo.off {w w' : World} {p : Nat} {G : RGeo} {E : PDisk} (h : RefM A w p G E) (ho : Off [] w w') : RefTo A w p G.blocks w' E := ((RefS.refl h).off ho).to
theorem RefTo.since {w w1 w2 : World} {p : Nat} {G : RGeo} {E' : PDisk} (ho : Off [] w w1) (h : RefTo A w1 p G.blocks w2 E') : RefTo A w p G.blocks w2 E' :=
  RefTo.next (ho.mono (fun _ _ h => by cases h)) (fun _ hb => .inl hb) h
theorem rparent_v (s : ByteArray) (w : World) (hs : s.size ≤ 1048576) (q : ByteArray) (hq : bs (parent (str s)) = q) : Calls Tryz.prog 83 #[.string s] w fun e w' => e = .returned (.string q) ∧ Off [] w w' := hq ▸ rparent_any s w hs
end
section
open Go.RowKit Go.Op Go.Maps
theorem perm_mem7 {α : Type} : ∀ {l m : List α}, l.Nodup → m.Nodup → (∀ x, x ∈ l ↔ x ∈ m) → l.Perm m
  | [], m, _, _, h => by
    cases m with
    | nil => exact List.Perm.nil
    | cons y m => exact absurd ((h y).2 (List.mem_cons_self ..)) (by simp)
  | x :: l, m, hl, hm, h => by
    obtain ⟨m1, m2, rfl⟩ := List.append_of_mem ((h x).1 (List.mem_cons_self ..)); obtain ⟨hx, hl⟩ := List.nodup_cons.1 hl; have hm' := (List.perm_middle (a := x) (l₁ := m1) (l₂ := m2)).nodup_iff.1 hm; obtain ⟨hx2, hm2⟩ := List.nodup_cons.1 hm'; refine ((perm_mem7 hl hm2 fun y => ?_).cons x).trans List.perm_middle.symm; have h1 := h y; rw [List.mem_cons, List.mem_append, List.mem_cons] at h1
    rw [List.mem_append]
    constructor
    · intro hy
      rcases h1.1 (.inr hy) with h | h | h
      · exact .inl h
      · subst h; exact absurd hy hx
      exact .inr h
    intro hy
    rcases h1.2 (hy.elim .inl fun h => .inr (.inr h)) with h | h
    · subst h; exact absurd (List.mem_append.2 hy) hx2
    exact h
theorem Apart.nodup7 {l : NameL} (h : Apart l) : l.Nodup := h.imp fun {_ _} h e => h (by rw [e])
def ledL (N : NameL) (path : ByteArray) : List Node → Nat → NameL
  | [], _ => []
  | x :: X, k => if within x.p (str path) then (x.path, k + 1) :: ledL N path X (k + 1) else (x.path, lookN N x.path) :: ledL N path X k
theorem ledL_fst (N : NameL) (path : ByteArray) : ∀ (X : List Node) (k : Nat), (ledL N path X k).map (·.1) = X.map (·.path)
  | [], _ => rfl
  | x :: X, k => by
    unfold ledL
    split
    · rw [List.map_cons, List.map_cons, ledL_fst N path X]
    rw [List.map_cons, List.map_cons, ledL_fst N path X]
theorem ledL_len (N : NameL) (path : ByteArray) (X : List Node) (k : Nat) : (ledL N path X k).length = X.length := by
  have := congrArg List.length (ledL_fst N path X k)
  simpa using this
theorem ledL_mem (N : NameL) (path : ByteArray) (z : ByteArray × Nat) : ∀ (X : List Node) (k : Nat), z ∈ ledL N path X k ↔ (∃ y ∈ X, within y.p (str path) = false ∧ z = (y.path, lookN N y.path)) ∨ z ∈ nmOf (laidL X path) k
  | [], k => by simp [ledL, laidL, nmOf]
  | x :: X, k => by
    unfold ledL
    by_cases hw : within x.p (str path) = true
    · have h1 : laidL (x :: X) path = x :: laidL X path := by unfold laidL; rw [List.filter_cons_of_pos (p := fun x : Node => within x.p (str path)) hw]
      rw [if_pos hw, h1, nmOf, List.mem_cons, List.mem_cons, ledL_mem N path z X]
      constructor
      · rintro (h | ⟨y, hy, h2, h3⟩ | h)
        · exact .inr (.inl h)
        · exact .inl ⟨y, List.mem_cons_of_mem _ hy, h2, h3⟩
        exact .inr (.inr h)
      rintro (⟨y, hy, h2, h3⟩ | h | h)
      · rcases List.mem_cons.1 hy with rfl | hy
        · rw [hw] at h2; cases h2
        exact .inr (.inl ⟨y, hy, h2, h3⟩)
      · exact .inl h
      exact .inr (.inr h)
    have h1 : laidL (x :: X) path = laidL X path := by unfold laidL; rw [List.filter_cons_of_neg (p := fun x : Node => within x.p (str path)) hw]
    rw [if_neg hw, h1, List.mem_cons, ledL_mem N path z X]
    constructor
    · rintro (h | ⟨y, hy, h2, h3⟩ | h)
      · exact .inl ⟨x, List.mem_cons_self .., by simpa using hw, h⟩
      · exact .inl ⟨y, List.mem_cons_of_mem _ hy, h2, h3⟩
      exact .inr h
    rintro (⟨y, hy, h2, h3⟩ | h)
    · rcases List.mem_cons.1 hy with rfl | hy
      · exact .inl h3
      exact .inr (.inl ⟨y, hy, h2, h3⟩)
    exact .inr (.inr h)
theorem ledL_apart {N : NameL} {path : ByteArray} {X : List Node} {k : Nat} (h : Sorted X) : Apart (ledL N path X k) := by
  rw [apart_iff, ledL_fst]; unfold List.Nodup; rw [List.pairwise_map]; exact sorted_path h
theorem ledL_snoc (N : NameL) (path : ByteArray) (x : Node) : ∀ (X : List Node) (k : Nat), ledL N path (X ++ [x]) k = ledL N path X k ++ [if within x.p (str path) then (x.path, k + (laidL X path).length + 1) else (x.path, lookN N x.path)]
  | [], k => by
    rw [List.nil_append, ledL, ledL]
    split <;> simp [ledL, laidL]
  | y :: X, k => by
    rw [List.cons_append, ledL, ledL]
    by_cases hw : within y.p (str path) = true
    · have h1 : laidL (y :: X) path = y :: laidL X path := by unfold laidL; rw [List.filter_cons_of_pos (p := fun x : Node => within x.p (str path)) hw]
      rw [if_pos hw, if_pos hw, ledL_snoc N path x X, h1, List.length_cons, List.cons_append, show k + 1 + (laidL X path).length = k + ((laidL X path).length + 1) by omega]
    have h1 : laidL (y :: X) path = laidL X path := by unfold laidL; rw [List.filter_cons_of_neg (p := fun x : Node => within x.p (str path)) hw]
    rw [if_neg hw, if_neg hw, ledL_snoc N path x X, h1, List.cons_append]
theorem laidL_snoc (X : List Node) (x : Node) (path : ByteArray) : laidL (X ++ [x]) path = laidL X path ++ if within x.p (str path) then [x] else [] := by
  unfold laidL; rw [List.filter_append]
  congr 1
  by_cases hw : within x.p (str path) = true
  · rw [if_pos hw, List.filter_cons_of_pos (p := fun x : Node => within x.p (str path)) hw]; rfl
  rw [if_neg hw, List.filter_cons_of_neg (p := fun x : Node => within x.p (str path)) hw]; rfl
section
variable {D : PDisk} {n : Nat} {path : ByteArray} {v X : List Node}
theorem ledL_perm (hk : Ok D n) (ha : Apart D.names) (h : PutWell D.tree path v X) : (ledL (norm D).names path X D.inos.length).Perm (keptN D path ++ nmOf (laidL X path) D.inos.length) := by
  have hap := edit_apart ha h; rw [(edit_closed h).1] at hap; refine perm_mem7 (ledL_apart (okTree_sorted h.okx)).nodup7 hap.nodup7 fun z => ?_
  rw [ledL_mem, List.mem_append]; have hlk : ∀ p, lookN (norm D).names p = lookN D.names p := fun p => lookN_perm7 ha.sortN (sortN_perm _) p
  constructor
  · rintro (⟨y, hy, hw, rfl⟩ | h1)
    · left
      obtain ⟨hy2, -⟩ := (put_mem h).1 ⟨hy, hw⟩; obtain ⟨x, hx, m, -, rfl⟩ := node_tree hk ha hy2; have : lookN (norm D).names x.1 = x.2 := (hlk x.1).trans (lookN_mem ha hx)
      show (x.1, lookN (norm D).names x.1) ∈ _
      rw [this]; exact List.mem_filter.2 ⟨hx, by
        have hw : within (str x.1) (str path) = false := hw
        rw [hw]; rfl⟩
    exact .inr h1
  rintro (h1 | h1)
  · left
    obtain ⟨hx, hw⟩ := keptN_not h1; obtain ⟨m, -, hm⟩ := tree_node hk ha hx; obtain ⟨hy, hw2⟩ := (put_mem h).2 ⟨hm, (hw : within (({ m.node with path := z.1 } : Node)).p (str path) = false)⟩; refine ⟨_, hy, hw2, ?_⟩
    show z = (z.1, lookN (norm D).names z.1)
    rw [(hlk z.1).trans (lookN_mem ha hx)]
  exact .inr h1
theorem norm_edit {e : EditP} (hk : Ok D n) (ha : Apart D.names) (h0 : (putR D.tree e.path e.value).2 = 0) (hX : (putR D.tree e.path e.value).1 = X) (h : PutWell D.tree e.path e.value X) :
    norm (D.edit e) = { norm D with inos := (norm D).inos ++ (laidL X e.path).map fun x => (⟨x, (D.clock : Int) + 1, false⟩ : Ino), names := sortI (ledL (norm D).names e.path X D.inos.length), later := (norm D).later ++ [sortI (ledL (norm D).names e.path X D.inos.length)] } := by
  have hE : D.edit e = { D.editN e.path X with later := (D.editN e.path X).later ++ [(D.editN e.path X).names] } := by
    unfold PDisk.edit; rw [if_neg (by rw [h0]; decide), hX]
  obtain ⟨c1, c2⟩ := edit_closed h; obtain ⟨k1, k2, k3, k4, k5, k6, k7⟩ := laid_same e.path X { D with names := D.names.filter fun y => !within (str y.1) (str e.path) }; obtain ⟨-, -, k8⟩ := laid_few e.path X { D with names := D.names.filter fun y => !within (str y.1) (str e.path) }; have hap := edit_apart ha h
  have hs : PDisk.sortN (D.editN e.path X).names = sortI (ledL (norm D).names e.path X D.inos.length) := by
    rw [sortI_eq (ledL_apart (okTree_sorted h.okx)), c1]; refine (sortN_of_perm (ledL_perm hk ha h) ?_).symm; rw [← c1]; exact hap
  have k1 : (D.editN e.path X).later = D.later := k1
  have k2 : (D.editN e.path X).safe = D.safe := k2
  have k3 : (D.editN e.path X).trace = D.trace := k3
  have k4 : (D.editN e.path X).off = D.off := k4
  have k5 : (D.editN e.path X).fates = D.fates := k5
  have k6 : (D.editN e.path X).edits = D.edits := k6
  have k7 : (D.editN e.path X).ev = D.ev := k7
  have k8 : (D.editN e.path X).clock = D.clock := k8
  rw [hE]; unfold norm; dsimp only; rw [hs, k1, k2, k3, k4, k5, k6, k7, k8, c2, List.map_append]; unfold norm; dsimp only; rw [List.map_cons, List.map_nil, hs]
  rfl
end
end
section
open Go.RowKit Go.Op Go.Maps
def SlimI (m : Ino) : Prop := rightN m.node = true ∧ (m.dirty = true → m.node.kind = 1)
def Slim (D : PDisk) : Prop := ∀ m ∈ D.inos, SlimI m
theorem rightN_file {n : Node} (h1 : n.kind = 1) (h2 : n.data.size ≤ 65536) (h3 : 0 ≤ n.mode) (h4 : n.mode ≤ 511) : rightN n = true := by
  unfold rightN; rw [if_pos h1]; simp [h2, h3, h4]
theorem rightN_data {n : Node} (h : rightN n = true) : n.data.size ≤ 65536 := by
  unfold rightN at h
  split at h
  · simp only [Bool.and_eq_true, decide_eq_true_eq] at h; omega
  split at h
  · simp only [Bool.and_eq_true, decide_eq_true_eq] at h; omega
  split at h
  · simp only [Bool.and_eq_true, decide_eq_true_eq] at h; omega
  cases h
theorem SlimI.tear {m : Ino} (h : SlimI m) (t : Int) : SlimI (PDisk.tear t m) := by
  unfold PDisk.tear
  split
  · rename_i hd
    have hk := h.2 hd; have hr := h.1; unfold rightN at hr; rw [if_pos hk] at hr; simp only [Bool.and_eq_true, decide_eq_true_eq] at hr; refine ⟨rightN_file hk ?_ hr.2.1 hr.2.2, fun h => by cases h⟩
    show (m.node.data.extract 0 _).size ≤ 65536
    rw [ByteArray.size_extract]; omega
  exact h
theorem Slim.crash {D : PDisk} (h : Slim D) (f : FateP) : Slim (D.crash f) := fun m hm => by
  obtain ⟨x, hx, rfl⟩ := List.mem_map.1 (show m ∈ D.inos.map (PDisk.tear f.torn) from hm); exact (h x hx).tear _
theorem Slim.same {D E : PDisk} (h : Slim D) (e : E.inos = D.inos) : Slim E := fun m hm => h m (by rw [← e]; exact hm)
theorem Slim.step {D : PDisk} (h : Slim D) (c p q : ByteArray) : Slim (D.step c p q).2.2 := by
  unfold PDisk.step
  split
  · exact h
  dsimp only
  split
  · exact h
  split
  · exact Slim.crash (D := { D with clock := D.clock + 1, trace := D.trace ++ [⟨c, p, q⟩] }) h _
  split <;> exact h
theorem Slim.call {D : PDisk} (h : Slim D) (c p q : ByteArray) (k : PDisk → Bool → Int × PDisk) (hk : ∀ E full, Slim E → Slim (k E full).2) : Slim (D.call c p q k).2 := by
  have h1 := h.step c p q; unfold PDisk.call; generalize D.step c p q = st at h1; obtain ⟨full, e, E⟩ := st; dsimp only at h1 ⊢
  split
  · exact h1
  exact hk E full h1
theorem Slim.lay {D : PDisk} (h : Slim D) (p : ByteArray) (n : Node) (full : Bool) (l : List (Bool × Int)) (hn : firstE (l ++ [(full || decide (1000 ≤ D.names.length), 71)]) = 0 → rightN n = true) : Slim (D.lay p n full l).2 := by
  unfold PDisk.lay; dsimp only
  split
  · exact h
  rename_i h0
  intro m hm
  rcases List.mem_append.1 (show m ∈ D.inos ++ [⟨n, D.clock, decide (n.kind = 1)⟩] from hm) with hm | hm
  · exact h m hm
  simp at hm; subst hm; exact ⟨hn (by simpa using h0), fun h => by simpa using h⟩
theorem Slim.set {D : PDisk} (h : Slim D) (i : Nat) (x : Ino) (hx : SlimI x) : Slim { D with inos := D.inos.set i x } := fun m hm => by
  rcases List.mem_or_eq_of_mem_set (show m ∈ D.inos.set i x from hm) with hm | rfl
  · exact h m hm
  exact hx
theorem Slim.at_ {D : PDisk} (h : Slim D) {p : ByteArray} {m : Ino} (hm : D.at_ p = some m) : SlimI m := by
  unfold PDisk.at_ PDisk.inode at hm
  split at hm
  · cases hm
  exact h m (List.mem_of_getElem? hm)
theorem wr_right {data : ByteArray} {mode : Int} {l : List (Bool × Int)} (hz : ∀ x ∈ l, x.2 ≠ 0) (h : firstE l = 0) (hm : ((decide (65536 < data.size) || decide (mode < 0) || decide (511 < mode)), (2 : Int)) ∈ l) : rightN ⟨⟨#[]⟩, 1, data, mode⟩ = true := by
  have h1 := firstE_zero hz h _ hm; simp only [Bool.or_eq_false_iff, decide_eq_false_iff_not] at h1; exact rightN_file rfl (by show data.size ≤ 65536; omega) (by show 0 ≤ mode; omega) (by show mode ≤ 511; omega)
theorem lk_right {q : ByteArray} {l : List (Bool × Int)} (hz : ∀ x ∈ l, x.2 ≠ 0) (h : firstE l = 0) (hm : (linkBad q, (2 : Int)) ∈ l) : rightN ⟨⟨#[]⟩, 3, q, 0⟩ = true := by
  have h1 := firstE_zero hz h _ hm; unfold linkBad at h1; simp only [Bool.or_eq_false_iff, decide_eq_false_iff_not] at h1; have h2 : q.size ≠ 0 := fun e => h1.1.1 (ByteArray.ext (Array.eq_empty_of_size_eq_zero e))
  unfold rightN; rw [if_neg (show ¬ (3 : Int) = 1 by decide), if_neg (show ¬ (3 : Int) = 2 by decide), if_pos rfl]; dsimp only; rw [h1.2]; simp [h2]; omega
theorem Slim.ask {D : PDisk} (h : Slim D) (c : CallP) : Slim (askD D c) := by
  unfold askD
  split
  · refine h.call _ _ _ _ fun E full hE => ?_
    unfold PDisk.write_
    cases hat : E.at_ c.path with
    | none =>
      refine hE.lay _ _ _ _ fun h0 => wr_right ?_ h0 (by simp)
      intro x hx
      simp only [List.mem_append, List.mem_cons, List.not_mem_nil, or_false] at hx
      rcases hx with (rfl | rfl | rfl | rfl) | rfl <;> simp [PDisk.no, PDisk.parentE]
    | some o =>
      dsimp only
      split
      · exact hE
      rename_i h0
      refine Slim.set hE _ (⟨⟨⟨#[]⟩, 1, c.data, c.mode⟩, E.clock, true⟩ : Ino) ⟨wr_right ?_ (by simpa using h0) (by simp), fun _ => rfl⟩
      intro x hx
      simp only [List.mem_cons, List.not_mem_nil, or_false] at hx
      rcases hx with rfl | rfl | rfl | rfl | rfl <;> simp [PDisk.no, PDisk.parentE]
  split
  · exact h.call _ _ _ _ fun E full hE => hE.lay _ _ _ _ (fun _ => by decide)
  split
  · refine h.call _ _ _ _ fun E full hE => hE.lay _ _ _ _ (fun h0 => lk_right ?_ h0 (by simp))
    intro x hx
    simp only [List.mem_append, List.mem_cons, List.not_mem_nil, or_false] at hx
    rcases hx with (rfl | rfl | rfl | rfl) | rfl <;> simp [PDisk.no, PDisk.parentE, PDisk.there]
  split
  · refine h.call _ _ _ _ fun E full hE => ?_
    unfold PDisk.remove_; dsimp only
    split
    · exact hE
    exact hE.same rfl
  split
  · refine h.call _ _ _ _ fun E full hE => ?_
    unfold PDisk.move_; dsimp only
    split
    · exact hE
    split
    · exact hE
    exact hE.same rfl
  split
  · refine h.call _ _ _ _ fun E full hE => ?_
    unfold PDisk.replace_; dsimp only
    split
    · exact hE
    exact hE.same rfl
  split
  · refine h.call _ _ _ _ fun E full hE => ?_
    unfold PDisk.sync_; dsimp only
    split
    · exact hE
    split
    · exact hE
    rename_i m hm
    have := hE.at_ hm; exact hE.set _ _ ⟨this.1, fun h => by cases h⟩
  split
  · exact h.call _ _ _ _ fun E full hE => hE.same rfl
  split
  · have h1 := h.step ⟨#[71, 101, 116]⟩ c.path ⟨#[]⟩
    unfold PDisk.get; generalize D.step ⟨#[71, 101, 116]⟩ c.path ⟨#[]⟩ = st at h1; obtain ⟨full, e, E⟩ := st; dsimp only at h1 ⊢
    split <;> exact h1
  split
  · have h1 := h.step ⟨#[78, 97, 109, 101, 115]⟩ c.path ⟨#[]⟩
    unfold PDisk.namesC; generalize D.step ⟨#[78, 97, 109, 101, 115]⟩ c.path ⟨#[]⟩ = st at h1; obtain ⟨full, e, E⟩ := st; dsimp only at h1 ⊢
    split <;> exact h1
  split
  · exact h.same rfl
  exact h
theorem Slim.edit {D : PDisk} (h : Slim D) (e : EditP) : Slim (D.edit e) := by
  rcases putR_cases D.tree e.path e.value with ⟨h0, -⟩ | ⟨h0, hw⟩
  · have : D.edit e = D := by unfold PDisk.edit; rw [if_pos h0]
    rw [this]; exact h
  generalize hX : (putR D.tree e.path e.value).1 = X at hw
  have hE : (D.edit e).inos = (D.editN e.path X).inos := by
    unfold PDisk.edit; rw [if_neg (by rw [h0]; decide), hX]
  intro m hm
  rw [hE, (edit_closed hw).2] at hm
  rcases List.mem_append.1 hm with hm | hm
  · exact h m hm
  obtain ⟨x, hx, rfl⟩ := List.mem_map.1 hm; exact ⟨okTree_right hw.okx (List.mem_filter.1 hx).1, fun h => by cases h⟩
theorem Slim.edits (t : Int) : ∀ (es : List EditP) (D : PDisk), Slim D → Slim (es.foldl (fun E e => if e.at_ = t then E.edit e else E) D)
  | [], D, h => h
  | e :: es, D, h => by
    rw [List.foldl_cons]
    by_cases he : e.at_ = t
    · rw [if_pos he]; exact Slim.edits t es _ (h.edit e)
    rw [if_neg he]; exact Slim.edits t es _ h
theorem Slim.editTo {D : PDisk} (h : Slim D) (i : Nat) : Slim (D.editTo i) := Slim.edits _ _ _ h
theorem Slim.edited {D : PDisk} (h : Slim D) : Slim D.edited := by
  cases ho : D.off
  · rw [edited_eq ho]; exact h.editTo _
  rw [edited_off ho]; exact h
theorem Slim.boot {D : PDisk} (h : Slim D) (fs : List FateP) (es : List EditP) (ev : Value) : Slim (D.bootE fs es ev) := h.same rfl
theorem Slim.new {t : List Node} (h : okTree t = true) : Slim (newD t) := fun m hm => by
  obtain ⟨x, hx, rfl⟩ := List.mem_map.1 (show m ∈ t.map fun n => (⟨n, 0, false⟩ : Ino) from hm); exact ⟨okTree_right h hx, fun h => by cases h⟩
theorem slim_askE {D : PDisk} (h : Slim D) (c : CallP) : Slim (askE D c).2 := by
  rcases askE_eq D c with e | e | e <;> rw [e]
  · exact h.edited.ask c
  · exact h.same rfl
  exact h
theorem parent_split7 {p : Str} (h : okPath p = true) (hp : parent p ≠ []) : parent p ++ 47 :: base p = p := by
  have hd : (parts p).dropLast ≠ [] := fun e => by rw [parent_eq h, e] at hp; exact hp rfl
  rw [parent_eq h, ← joinP_snoc (base p) hd, ← parts_split h, joinP_parts]
theorem parent_ok {p : Str} (h : okPath p = true) (hp : parent p ≠ []) : okPath (parent p) = true := by
  have e := parent_split7 h hp; have h' := h; unfold okPath at h' ⊢; simp only [Bool.and_eq_true, decide_eq_true_eq] at h' ⊢; obtain ⟨⟨h1, h2⟩, h3⟩ := h'; have hl := congrArg List.length e; have hc := congrArg (List.count 47) e; rw [List.length_append] at hl; rw [List.count_append] at hc; refine ⟨⟨by omega, by omega⟩, ?_⟩; rw [parent_parts h hp]; rw [List.all_eq_true] at h3 ⊢
  exact fun x hx => h3 x (List.dropLast_subset _ hx)
theorem within_parent {p : Str} (h : okPath p = true) (hp : parent p ≠ []) : within p (parent p) = true := by
  unfold within; rw [h, decide_eq_false hp, parent_ok h hp, parent_parts h hp]; simp only [Bool.true_and, Bool.false_or, List.isPrefixOf_iff_prefix]; exact List.dropLast_prefix _
theorem parent_ne {p : Str} (h : okPath p = true) (hp : parent p ≠ []) : parent p ≠ p := fun e => by
  have := congrArg List.length (parent_split7 h hp); rw [List.length_append, e] at this; simp at this
theorem Fine.sorted {D : PDisk} {n : Nat} (h : Fine D n) : Sorted D.tree := by
  rw [h.ok.tree h.good.names]; unfold Sorted; rw [List.pairwise_map]; have hp := List.pairwise_mergeSort leN_trans leN_total D.names; have ha := h.good.names.sortN; refine (List.pairwise_and_iff.2 ⟨hp, ha⟩).imp fun {x y} hxy => ?_
  obtain ⟨h1, h2⟩ := hxy; have e1 : (nodeOf D x).p = str x.1 := by unfold nodeOf; split <;> rfl
  have e2 : (nodeOf D y).p = str y.1 := by unfold nodeOf; split <;> rfl
  rw [e1, e2]; unfold leN at h1; simp only [Bool.not_eq_true', decide_eq_false_iff_not] at h1; have h3 := order_swap (str x.1) (str y.1)
  rcases order_tri (str x.1) (str y.1) with h4 | h4 | h4
  · exact h4
  · exact absurd (str_inj h4) h2
  exact absurd h4 h1
theorem tree_ok {D : PDisk} {n : Nat} (h : Fine D n) (hs : Slim D) : okTree D.tree = true := by
  refine tree_of ?_ h.sorted fun y hy => ?_
  · rw [h.ok.tree h.good.names, List.length_map, sortN_len]
    exact h.ok.nlen
  obtain ⟨x, hx, m, hm, rfl⟩ := node_tree h.ok h.good.names hy; obtain ⟨hk, hup⟩ := h.good.tree.names x hx; have hin : m ∈ D.inos := by
    unfold PDisk.inode at hm
    split at hm
    · cases hm
    exact List.mem_of_getElem? hm
  refine ⟨hk, (hs m hin).1, isDir_iff.2 ?_⟩
  show parent (str x.1) = [] ∨ _
  by_cases hp : parent (str x.1) = []
  · exact .inl hp
  right
  obtain ⟨q, hq⟩ : ∃ q : ByteArray, str q = parent (str x.1) := ⟨bs (parent (str x.1)), str_bs _⟩
  obtain ⟨m2, hm2, hk2⟩ := hup q (by rw [hq]; exact parent_ok hk hp) (by rw [hq]; exact within_parent hk hp) (fun e => parent_ne hk hp (by rw [← hq, ← e])); have hh : hasN D.names q = true := by
    cases hh : hasN D.names q
    · rw [lookN_of_not hh] at hm2
      unfold PDisk.inode at hm2
      cases hm2
    rfl
  obtain ⟨z, hz, rfl⟩ := (hasN_iff _ _).1 hh; rw [lookN_mem h.good.names hz] at hm2; obtain ⟨m3, hm3, hin3⟩ := tree_node h.ok h.good.names hz; rw [hm2] at hm3; injection hm3 with hm3
  subst hm3; exact ⟨_, hin3, hq, hk2⟩
end
end Go.Proofs.YtgcfkljooabjjaaGreatDoor
