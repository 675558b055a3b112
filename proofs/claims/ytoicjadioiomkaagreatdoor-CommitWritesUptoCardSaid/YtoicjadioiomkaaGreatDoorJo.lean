/- Texts of this claim, one behind the other: Two Com1 Com2 Com3 Com4 Com5 Com6 Com7 Com8 Com9 Com10 Com11 Com12 Com13 Com14 Com15. Conditions: what each lemma states. -/
import Derived.Test.YtoicjadioiomkaaGreatDoorJj
import Derived.Test.YtoicjadioiomkaaGreatDoorJn
import Derived.Test.YtoicjadioiomkaaGreatDoorJh
set_option linter.unusedVariables false
set_option linter.unusedSimpArgs false
namespace Go.Proofs.YtoicjadioiomkaaGreatDoor
section
open Go.RowKit Go.Op Go.Maps
structure TwoG (w0 w : World) (pa : Nat) (Ga : Geo) (A : PDisk) (n pb : Nat) (Gb : Geo) (B : PDisk) (m : Nat) (K : List Nat) : Prop where
  a : DS w pa Ga A n
  b : DS w pb Gb B m
  ab : ∀ x ∈ pa :: Ga.parts, x ∉ pb :: Gb.parts
  since : Off [] w0 w
  la : ∀ x ∈ pa :: Ga.parts, w0.heap.size ≤ x
  lb : ∀ x ∈ pb :: Gb.parts, w0.heap.size ≤ x
  tabs : Tabs w0
  far : ∀ x ∈ K, x < w.heap.size ∧ x ∉ pa :: Ga.parts ∧ x ∉ pb :: Gb.parts
def Kep (k : List Nat) (w w' : World) : Prop := Kept k w w' ∧ w.heap.size ≤ w'.heap.size
def TwoP (w0 w : World) (pa : Nat) (A : PDisk) (n pb : Nat) (B : PDisk) (m : Nat) (K : List Nat) : Prop := ∃ Ga Gb, TwoG w0 w pa Ga A n pb Gb B m K
section
variable {w0 w w' : World} {pa n pb m n' : Nat} {A B A' : PDisk} {K : List Nat} {Ga Gb : Geo}
theorem DS.lt {p : Nat} {G : Geo} {D : PDisk} (h : DS w p G D n) : ∀ x ∈ p :: G.parts, x < w.heap.size := fun x hx => by
  rcases List.mem_cons.1 hx with rfl | hx
  · exact h.m.blk.lt
  exact h.m.parts.lt hx
theorem TwoG.swap (h : TwoG w0 w pa Ga A n pb Gb B m K) : TwoG w0 w pb Gb B m pa Ga A n K :=
  ⟨h.b, h.a, fun x hx hm => h.ab x hm hx, h.since, h.lb, h.la, h.tabs, fun x hx => ⟨(h.far x hx).1, (h.far x hx).2.2, (h.far x hx).2.1⟩⟩
theorem TwoP.swap (h : TwoP w0 w pa A n pb B m K) : TwoP w0 w pb B m pa A n K := by
  obtain ⟨Ga, Gb, h⟩ := h; exact ⟨Gb, Ga, h.swap⟩
theorem TwoG.to {Ga' : Geo} (h : TwoG w0 w pa Ga A n pb Gb B m K) (h1 : DS w' pa Ga' A' n') (h2 : Off (pa :: Ga.parts) w w') (h3 : ∀ b ∈ Ga'.parts, b ∈ Ga.parts ∨ w.heap.size ≤ b) : TwoG w0 w' pa Ga' A' n' pb Gb B m K ∧ Kep K w w' := by
  have hs : Off [] w0 w' := h.since.trans h2 (fun x hx hm => by have := h.la x hm; omega)
  refine ⟨⟨h1, ⟨h.b.m.off h2 (fun hm => h.ab _ hm (List.mem_cons_self ..)) (fun b hb hm => h.ab _ hm (List.mem_cons_of_mem _ hb)), h.b.sb, h.b.ok, fun W ho => h.tabs.off (hs.trans ho (fun x hx hm => by have := h.lb x hm; omega)), h.b.quiet⟩, fun x hx hm => ?_, hs, fun x hx => ?_, h.lb, h.tabs, fun x hx => ?_⟩, fun x hx => h2.block x (h.far x hx).1 (h.far x hx).2.1, h2.size⟩
  · rcases List.mem_cons.1 hx with rfl | hx
    · exact h.ab _ (List.mem_cons_self ..) hm
    rcases h3 x hx with h4 | h4
    · exact h.ab _ (List.mem_cons_of_mem _ h4) hm
    have := h.b.lt x hm; omega
  · rcases List.mem_cons.1 hx with rfl | hx
    · exact h.la _ (List.mem_cons_self ..)
    rcases h3 x hx with h4 | h4
    · exact h.la _ (List.mem_cons_of_mem _ h4)
    exact Nat.le_trans h.since.size h4
  obtain ⟨a1, a2, a3⟩ := h.far x hx; refine ⟨Nat.lt_of_lt_of_le a1 h2.size, fun hm => ?_, a3⟩
  rcases List.mem_cons.1 hm with rfl | hm
  · exact a2 (List.mem_cons_self ..)
  rcases h3 x hm with h4 | h4
  · exact a2 (List.mem_cons_of_mem _ h4)
  omega
theorem TwoP.callA {f : FuncId} {args : Array Value} {R : Ending → World → Prop} (h : TwoP w0 w pa A n pb B m K) (hc : ∀ G, DS w pa G A n → Calls Tryz.prog f args w fun e w' => R e w' ∧ DSTo w pa G.parts w' A' n') :
    Calls Tryz.prog f args w fun e w' => R e w' ∧ TwoP w0 w' pa A' n' pb B m K ∧ Kep K w w' := by
  obtain ⟨Ga, Gb, h⟩ := h; refine (hc Ga h.a).mono fun e w' ⟨he, Ga', h1, h2, h3⟩ => ⟨he, ?_⟩
  obtain ⟨k1, k2⟩ := h.to h1 h2 h3; exact ⟨⟨Ga', Gb, k1⟩, k2⟩
theorem TwoP.callB {f : FuncId} {args : Array Value} {R : Ending → World → Prop} {B' : PDisk} {m' : Nat} (h : TwoP w0 w pa A n pb B m K) (hc : ∀ G, DS w pb G B m → Calls Tryz.prog f args w fun e w' => R e w' ∧ DSTo w pb G.parts w' B' m') :
    Calls Tryz.prog f args w fun e w' => R e w' ∧ TwoP w0 w' pa A n pb B' m' K ∧ Kep K w w' :=
  (h.swap.callA hc).mono fun _ _ ⟨he, h1, h2⟩ => ⟨he, h1.swap, h2⟩
theorem TwoP.more {k' : List Nat} (h : TwoP w0 w pa A n pb B m K) (ho : Off [] w w') (hk : ∀ b ∈ k', w.heap.size ≤ b ∧ b < w'.heap.size) : TwoP w0 w' pa A n pb B m (k' ++ K) := by
  obtain ⟨Ga, Gb, h⟩ := h; refine ⟨Ga, Gb, h.a.off ho, h.b.off ho, h.ab, h.since.trans_nil ho, h.la, h.lb, h.tabs, fun x hx => ?_⟩
  rcases List.mem_append.1 hx with hx | hx
  · exact ⟨(hk x hx).2, fun hm => by have := h.a.lt x hm; have := (hk x hx).1; omega, fun hm => by have := h.b.lt x hm; have := (hk x hx).1; omega⟩
  exact ⟨Nat.lt_of_lt_of_le (h.far x hx).1 ho.size, (h.far x hx).2⟩
theorem TwoP.off (h : TwoP w0 w pa A n pb B m K) (ho : Off [] w w') : TwoP w0 w' pa A n pb B m K := by
  have := h.more (k' := []) ho (fun b hb => by cases hb); exact this
theorem TwoP.drop {k' : List Nat} (h : TwoP w0 w pa A n pb B m K) (hk : ∀ b ∈ k', b ∈ K) : TwoP w0 w pa A n pb B m k' := by
  obtain ⟨Ga, Gb, h⟩ := h; exact ⟨Ga, Gb, h.a, h.b, h.ab, h.since, h.la, h.lb, h.tabs, fun x hx => h.far x (hk x hx)⟩
theorem TwoP.since (h : TwoP w0 w pa A n pb B m K) : Off [] w0 w := by obtain ⟨_, _, h⟩ := h; exact h.since
theorem TwoP.tabs (h : TwoP w0 w pa A n pb B m K) : Tabs w := by obtain ⟨_, _, h⟩ := h; exact h.tabs.off h.since
theorem TwoP.okA (h : TwoP w0 w pa A n pb B m K) : Ok A n := by obtain ⟨_, _, h⟩ := h; exact h.a.ok
theorem TwoP.okB (h : TwoP w0 w pa A n pb B m K) : Ok B m := by obtain ⟨_, _, h⟩ := h; exact h.b.ok
theorem TwoP.make {wm : World} (ha : Run w0 wm pa A n) (hb : Run wm w pb B m) (hT : Tabs w0) : TwoP w0 w pa A n pb B m [] := by
  obtain ⟨Ga, h1, h2, h3, h4⟩ := ha; obtain ⟨Gb, k1, k2, k3, k4⟩ := hb; have hpb : ∀ x ∈ pb :: Gb.parts, wm.heap.size ≤ x := fun x hx => by
    rcases List.mem_cons.1 hx with rfl | hx
    · exact k3
    exact k4 x hx
  refine ⟨Ga, Gb, h1.off k2, k1, fun x hx hm => ?_, h2.trans_nil k2, fun x hx => ?_, fun x hx => Nat.le_trans h2.size (hpb x hx), hT, fun x hx => by cases hx⟩
  · have := h1.lt x hx; have := hpb x hm; omega
  rcases List.mem_cons.1 hx with rfl | hx
  · exact h3
  exact h4 x hx
end
theorem Kep.trans {k : List Nat} {w w' w2 : World} (h : Kep k w w') (h2 : Kep k w' w2) : Kep k w w2 := ⟨h.1.trans h2.1, Nat.le_trans h.2 h2.2⟩
theorem Kep.refl {k : List Nat} {w : World} : Kep k w w := ⟨fun _ _ => rfl, Nat.le_refl _⟩
theorem Kep.blk {k : List Nat} {w w' : World} {b : Nat} {t : TypeId} {cs : Array Value} (h : Kep k w w') (hB : Blk w b t cs) (hb : b ∈ k) : Blk w' b t cs := h.1.blk hB hb
theorem Kep.sub {k k' : List Nat} {w w' : World} (h : Kep k w w') (hk : ∀ b ∈ k', b ∈ k) : Kep k' w w' := ⟨fun b hb => h.1 b (hk b hb), h.2⟩
theorem TwoP.kep {w0 w w' : World} {pa n pb m : Nat} {A B : PDisk} {K : List Nat} (h : TwoP w0 w pa A n pb B m K) (ho : Off [] w w') : Kep K w w' := by
  obtain ⟨_, _, h⟩ := h; exact ⟨fun b hb => ho.block b (h.far b hb).1 (by simp), ho.size⟩
def arcL (v : Value) (a : Arc) : List Nat :=
  match v with
  | .agg xs => (if a.tree = [] then [] else (xs.getD 2 (.bool false)).ownBlock.toList) ++ (if a.stamps = [] then [] else (xs.getD 3 (.bool false)).ownBlock.toList)
  | _ => []
theorem arcL_sub {v : Value} {a : Arc} : ∀ b ∈ arcL v a, b ∈ arcB v := fun b hb => by
  unfold arcL arcB at *
  split at hb
  · rcases List.mem_append.1 hb with hb | hb
    · split at hb
      · cases hb
      exact List.mem_append_left _ hb
    split at hb
    · cases hb
    exact List.mem_append_right _ hb
  cases hb
theorem ArcAt.lt {w : World} {v : Value} {a : Arc} (h : ArcAt w v a) : ∀ b ∈ arcL v a, b < w.heap.size := by
  obtain ⟨⟨tp, c, sp, d, rfl, h2, h3, _⟩, _⟩ := h
  intro b hb
  rcases List.mem_append.1 hb with hb | hb
  · split at hb
    · cases hb
    rename_i hne
    obtain ⟨x, rfl, hl, _⟩ := h2 hne; simp [Value.ownBlock] at hb; rw [hb]; exact hl
  split at hb
  · cases hb
  rename_i hne
  obtain ⟨x, rfl, hl, _⟩ := h3 hne; simp [Value.ownBlock] at hb; rw [hb]; exact hl
theorem Row.kept {w w' : World} {k : List Nat} {p : Option Addr} {t : List Node} (h : Row w p t) (ho : Kept k w w') (hz : w.heap.size ≤ w'.heap.size) (hb : ∀ a, t ≠ [] → p = some a → a.block ∈ k) : Row w' p t := fun hne => by
  obtain ⟨a, rfl, hl, hn⟩ := h hne; have hk := hb a hne rfl; refine ⟨a, rfl, Nat.lt_of_lt_of_le hl hz, fun i n hi => ?_⟩; have h1 := hn i n hi; have key : ∀ q : Addr, q.block = a.block → w'.cell? q = w.cell? q := fun q hq => by
    obtain ⟨b, o, sp⟩ := q; have hq : b = a.block := hq
    subst hq; unfold World.cell?; rw [ho _ hk]
  have hbk := add_block a (i * 4); exact ⟨(key _ hbk).trans h1.path, (key ⟨(a.add (i * 4)).block, (a.add (i * 4)).off + 1, none⟩ hbk).trans h1.kind, (key ⟨(a.add (i * 4)).block, (a.add (i * 4)).off + 2, none⟩ hbk).trans h1.data, (key ⟨(a.add (i * 4)).block, (a.add (i * 4)).off + 3, none⟩ hbk).trans h1.mode⟩
theorem SRow3.kept {w w' : World} {k : List Nat} {p : Option Addr} {t : List (Int × Int × Int)} (h : SRow3 w p t) (ho : Kept k w w') (hz : w.heap.size ≤ w'.heap.size) (hb : ∀ a, t ≠ [] → p = some a → a.block ∈ k) : SRow3 w' p t := fun hne => by
  obtain ⟨a, rfl, hl, hn⟩ := h hne; have hk := hb a hne rfl; refine ⟨a, rfl, Nat.lt_of_lt_of_le hl hz, fun i n hi => ?_⟩; have h1 := hn i n hi; have key : ∀ q : Addr, q.block = a.block → w'.cell? q = w.cell? q := fun q hq => by
    obtain ⟨b, o, sp⟩ := q; have hq : b = a.block := hq
    subst hq; unfold World.cell?; rw [ho _ hk]
  have hbk := add_block a (i * 3); exact ⟨(key _ hbk).trans h1.i0, (key ⟨(a.add (i * 3)).block, (a.add (i * 3)).off + 1, none⟩ hbk).trans h1.i1, (key ⟨(a.add (i * 3)).block, (a.add (i * 3)).off + 2, none⟩ hbk).trans h1.i2⟩
theorem ArcAt.kept {w w' : World} {k : List Nat} {v : Value} {a : Arc} (h : ArcAt w v a) (hp : Kep k w w') (hb : ∀ b ∈ arcL v a, b ∈ k) : ArcAt w' v a := by
  obtain ⟨ho, hz⟩ := hp; obtain ⟨⟨tp, c, sp, d, rfl, h2, h3, h4⟩, h5, h6, h7, h8, h9⟩ := h; refine ⟨⟨tp, c, sp, d, rfl, h2.kept ho hz (fun x hne e => hb _ ?_), h3.kept ho hz (fun x hne e => hb _ ?_), h4⟩, h5, h6, h7, h8, h9⟩
  · subst e
    unfold arcL; simp only [if_neg hne]; exact List.mem_append_left _ (by simp [Value.ownBlock])
  subst e; unfold arcL; simp only [if_neg hne]; exact List.mem_append_right _ (by simp [Value.ownBlock])
end
section
open Go.RowKit Go.Op Go.Maps
set_option maxRecDepth 100000 in
set_option maxHeartbeats 4000000 in
theorem cuntil_any (g n c : Nat) (fs : List (FuncId × Array Value × Array Value)) (P : Nat → World → Prop) (Q : Int → World → Prop) (w : World) (hn : fs.length = n) (hb : n ≤ 1000) (h0 : P 0 w)
    (hcell : ∀ i W, P i W → g < W.heap.size ∧ ∀ (j : Nat) f, fs[j]? = some f → W.cell? ⟨g, j, none⟩ = some (.func (.func f.1) f.2.1 f.2.2))
    (hstep : ∀ (i : Nat) f W, fs[i]? = some f → P i W → Calls Tryz.prog f.1 (f.2.1 ++ f.2.2) W fun e w' => ∃ v : Int, e = .returned (.int .i64 v) ∧ (v = 0 → P (i + 1) w') ∧ (v ≠ 0 → Q v w'))
    (hend : ∀ W, P n W → Q 0 W) (en : ∀ f ∈ fs, ∀ args w, (callFunc f.1 args).run Tryz.prog w = .ok (.enter f.1 args) w) :
    Calls Tryz.prog 90 #[.slice (some ⟨g, 0, none⟩) n c] w fun e w' => ∃ v : Int, e = .returned (.int .i64 v) ∧ Q v w' := by
  have HN := Lib.hid hn; have HC := Lib.hid hcell; have HST := Lib.hid hstep; have HE := Lib.hid hend; have HEN := Lib.hid en; have H0 := Lib.hid h0; clear hn hcell hstep hend en h0
  go_enter Tryz.func90, Tryz.ntmps90
  go_wp2_with fail
  go_loopw [8] (fun x wr => ∃ i : Nat, x = .int .i64 i ∧ i ≤ n ∧ Hid (P i wr)) (fun x _ => n - (intOf x).toNat)
  case atStart => exact ⟨0, rfl, by omega, H0⟩
  case round =>
    obtain ⟨i, rfl, hi, HP⟩ := hrel
    by_cases hlt : i < n
    · have hil : i < fs.length := by rw [HN.out]; exact hlt
      obtain ⟨f, hf⟩ : ∃ f, fs[i]? = some f := ⟨_, List.getElem?_eq_getElem hil⟩
      obtain ⟨hg, hcs⟩ := HC.out i wr HP.out; have hc := hcs i f hf; have en := HEN.out f (List.mem_of_getElem? hf); have HS := Lib.hid (HST.out i f wr hf HP.out); obtain ⟨fn, bd, cp⟩ := f; have hilt : (i : Int) < n := by omega
      dsimp only at hc en HS
      clear hf hcs
      go_wp2_with fail
      refine HS.out.mono ?_
      rintro e w2 ⟨v, rfl, hz, hnz⟩
      by_cases hv : v = 0
      · subst hv
        have HP2 := Lib.hid (hz rfl); clear hz hnz hc en
        go_wp2_with fail
        exact ⟨⟨i + 1, by congr 1, by omega, HP2⟩, by simp only [intOf]; omega⟩
      have HQ := Lib.hid (hnz hv); have hne : (v == 0) = false := beq_eq_false_iff_ne.2 hv
      clear hz hnz hv hc en
      go_wp2_with fail
      go_ret
      exact ⟨v, rfl, HQ.out⟩
    obtain rfl : i = n := by omega
    go_wp2_with fail
    go_ret
    exact ⟨0, rfl, HE.out _ HP.out⟩
theorem DS.own1 {w w1 w2 : World} {p n n1 : Nat} {G G1 : Geo} {D D1 : PDisk} {k : List Nat} (h : DS w p G D n) (h1 : DS w1 p G1 D1 n1) (ho : Off (p :: G.parts) w w1) (hp : ∀ b ∈ G1.parts, b ∈ G.parts ∨ w.heap.size ≤ b)
    (hk : Off k w1 w2) (hk1 : ∀ b ∈ k, w.heap.size ≤ b ∧ b ∉ p :: G1.parts) : DS w2 p G1 D1 n1 ∧ Off (p :: G.parts) w w2 := by
  have h2 : Off (p :: G.parts) w w2 := ho.trans hk (fun x hx hm => by have := (hk1 x hm).1; omega)
  refine ⟨⟨h1.m.off hk (fun hm => (hk1 _ hm).2 (List.mem_cons_self ..)) (fun b hb hm => (hk1 _ hm).2 (List.mem_cons_of_mem _ hb)), h1.sb, h1.ok, fun W hW => h.tabs W (h2.trans hW fun x hx hm => ?_), h1.quiet⟩, h2⟩
  rcases List.mem_cons.1 hm with rfl | hm
  · exact List.mem_cons_self ..
  rcases hp x hm with h3 | h3
  · exact List.mem_cons_of_mem _ h3
  omega
def LdTo (w : World) (p : Nat) (L : List Nat) (D : PDisk) (n : Nat) (oa : Option Arc) (e : Ending) (w' : World) : Prop :=
  ∃ v, e = .returned (.tuple #[v, .bool oa.isSome, .int .i64 0]) ∧ ArcAt w' v (oa.getD zA) ∧ (∀ b ∈ arcB v, w.heap.size ≤ b) ∧
    ∃ G', DS w' p G' D n ∧ Off (p :: L) w w' ∧ (∀ b ∈ G'.parts, b ∈ L ∨ w.heap.size ≤ b) ∧ ∀ b ∈ arcB v, b ∉ p :: G'.parts
set_option maxRecDepth 100000 in
set_option maxHeartbeats 8000000 in
theorem cload_call (p n : Nat) (G : Geo) (D : PDisk) (path : ByteArray) (o : Option ByteArray) (oa : Option Arc) (w : World) (h : DS w p G D n) (hn : n ≤ 100000) (hs : path.size ≤ 100000)
    (hl : (D.load path).1 = (o.getD ⟨#[]⟩, o.isSome, 0)) (hT : TellA o oa) :
    Calls Tryz.prog 99 #[.pointer (some ⟨p, 0, none⟩), .string path] w (LdTo w p G.parts (D.load path).2 (n + 1) oa) := by
  have HC := Lib.hid (fun (W : World) (ho : Off [] w W) => dload_call p n G D path W (h.off ho) hn hs); rw [hl] at HC; dsimp only at HC; have H := Lib.hid (And.intro h hT); clear h hT hl
  go_enter Tryz.func99, Tryz.ntmps99
  go_wp2_with fail
  refine (HC.out _ ((Off.refl _ _).alloc _)).mono ?_
  rintro e w1 ⟨rfl, G1, a1, a2, a3⟩; have hpl := H.out.1.lt; have HR := Lib.hid ((Blk.new w 52 #[.string ⟨#[]⟩, .int .i64 0, .slice none 0 0, .slice none 0 0]).off a2 (fun hm => by have := hpl _ hm; omega)); have HP := Lib.hid (show ∀ b ∈ G1.parts, b ∈ G.parts ∨ w.heap.size < b from fun b hb => by
    rcases a3 b hb with h | h
    · exact .inl h
    refine .inr ?_
    simp at h
    omega)
  have hof : Off (p :: G.parts) w w1 := ((Off.refl [] w).alloc (.cells #[.string ⟨#[]⟩, .int .i64 0, .slice none 0 0, .slice none 0 0] 52))|>.mono (fun _ _ h => by simp at h) |>.trans a2 (fun _ _ h => h)
  have HO := Lib.hid hof; have HD := Lib.hid a1; have HG := Lib.hid (show w.heap.size ∉ p :: G1.parts from fun hm => by
    rcases List.mem_cons.1 hm with e | hm
    · have := hpl p (List.mem_cons_self ..); omega
    rcases HP.out _ hm with h | h
    · have := hpl _ (List.mem_cons_of_mem _ h); omega
    omega)
  clear a1 a2 a3 hpl hof HC; have hc := HR.out.cell; have hf := HR.out.frozen; have hl := HR.out.lt; have hres : Tryz.f99.results = #[.cell 4 52, .tmp 5, .tmp 6] := rfl
  cases ho : o with
  | none =>
    have hoa : oa = none := by
      rcases H.out.2 with ⟨_, h⟩ | ⟨s, h, _⟩
      · exact h
      rw [ho] at h; cases h
    subst hoa
    go_wp2_with fail
    obtain ⟨k1, k2⟩ := H.out.1.own1 HD.out HO.out (fun b hb => (HP.out b hb).imp id Nat.le_of_lt) (putA_off w1 w.heap.size (.string ⟨#[]⟩) (.int .i64 0) (.slice none 0 0) (.slice none 0 0)) (fun b hb => by rw [List.mem_singleton] at hb; subst hb; exact ⟨Nat.le_refl _, HG.out⟩)
    refine bodyPost_ret (v := .tuple #[.agg #[.string ⟨#[]⟩, .int .i64 0, .slice none 0 0, .slice none 0 0], .bool false, .int .i64 0]) ?_ rfl ⟨_, rfl, zA_at _, (fun b hb => by cases hb), G1, k1, k2, fun b hb => (HP.out b hb).imp id Nat.le_of_lt, fun b hb => by cases hb⟩
    simp only [results, hres]
    go_simp
  | some s =>
    have hT : TellS s oa := by
      rcases H.out.2 with ⟨h, _⟩ | ⟨s', h, h2⟩
      · rw [ho] at h; cases h
      rw [ho] at h; injection h with h; rw [h]; exact h2
    have HT := Lib.hid hT; have HTB := Lib.hid (show Tabs w1 from HD.out.tabs _ (Off.refl _ _)); clear hT
    go_wp2_with fail
    refine (decode_t s oa _ HT.out HTB.out).mono ?_
    rintro e w4 ⟨v, rfl, hA, ho4, hfr⟩; have HB := Lib.hid (HR.out.off ho4 (by simp)); have HL := Lib.hid (show ∀ b ∈ arcB v, b ∉ [w.heap.size] from fun b hb hm => by
      rw [List.mem_singleton] at hm; have := hfr b hb; have := HR.out.lt; omega)
    have HL2 := Lib.hid (show ∀ b ∈ arcB v, w.heap.size ≤ b from fun b hb => Nat.le_trans HO.out.size (hfr b hb)); have HL3 := Lib.hid (show ∀ b ∈ arcB v, b ∉ p :: G1.parts from fun b hb hm => by have := hfr b hb; have := HD.out.lt b hm; omega); obtain ⟨⟨tp, ca, sp, cb, rfl, _⟩, _⟩ := id hA; have HA := Lib.hid hA; have hz : (isZ oa == 0) = oa.isSome := by cases oa <;> rfl
    have HO4 := Lib.hid ho4; clear hc hf hl ho4 hfr hA HT HTB; have hc := HB.out.cell; have hf := HB.out.frozen; have hl := HB.out.lt
    go_wp2_with fail
    obtain ⟨k1, k2⟩ := H.out.1.own1 (HD.out.off HO4.out) (HO.out.trans HO4.out (fun x _ hm => by simp at hm)) (fun b hb => (HP.out b hb).imp id Nat.le_of_lt) ((putA_off w4 w.heap.size (.string (oa.getD zA).pair) (.int .i64 (oa.getD zA).serial) (.slice tp (oa.getD zA).tree.length ca) (.slice sp (oa.getD zA).stamps.length cb)).alloc (.cells #[.string (oa.getD zA).pair, .int .i64 (oa.getD zA).serial, .slice tp (oa.getD zA).tree.length ca, .slice sp (oa.getD zA).stamps.length cb] 52)) (fun b hb => by rw [List.mem_singleton] at hb; subst hb; exact ⟨Nat.le_refl _, HG.out⟩)
    refine bodyPost_ret (v := .tuple #[.agg #[.string (oa.getD zA).pair, .int .i64 (oa.getD zA).serial, .slice tp (oa.getD zA).tree.length ca, .slice sp (oa.getD zA).stamps.length cb], .bool oa.isSome, .int .i64 0]) ?_ rfl ⟨_, rfl, (HA.out.offk (putA_off w4 w.heap.size _ _ _ _) HL.out).off ((Off.refl [] _).alloc _), HL2.out, G1, k1, k2, fun b hb => (HP.out b hb).imp id Nat.le_of_lt, HL3.out⟩
    simp only [results, hres]
    go_simp
set_option maxRecDepth 100000 in
set_option maxHeartbeats 8000000 in
theorem cLoad_call (p n : Nat) (G : Geo) (D : PDisk) (o : Option ByteArray) (oa : Option Arc) (w : World) (h : DS w p G D n) (hn : n ≤ 100000)
    (hl : (D.load arcN).1 = (o.getD ⟨#[]⟩, o.isSome, 0)) (hT : TellA o oa) :
    Calls Tryz.prog 97 #[.pointer (some ⟨p, 0, none⟩)] w (LdTo w p G.parts (D.load arcN).2 (n + 1) oa) := by
  have HC := Lib.hid (fun (W : World) (ho : Off [] w W) => cload_call p n G D arcN o oa W (h.off ho) hn (by decide) hl hT); obtain ⟨E, hE⟩ : ∃ E, (D.load arcN).2 = E := ⟨_, rfl⟩
  rw [hE] at HC ⊢; unfold arcN at HC; have H := Lib.hid h; clear h hT hl hE
  go_enter Tryz.func97, Tryz.ntmps97
  go_wp2_with fail
  refine (HC.out _ ((Off.refl _ _).alloc _)).mono ?_
  rintro e w1 ⟨v, rfl, hA, hfr, G1, a1, a2, a3, a4⟩; have hpl := H.out.lt; have HR := Lib.hid ((Blk.new w 52 #[.string ⟨#[]⟩, .int .i64 0, .slice none 0 0, .slice none 0 0]).off a2 (fun hm => by have := hpl _ hm; omega)); have HP := Lib.hid (show ∀ b ∈ G1.parts, b ∈ G.parts ∨ w.heap.size < b from fun b hb => by
    rcases a3 b hb with h | h
    · exact .inl h
    refine .inr ?_
    simp at h
    omega)
  have hof : Off (p :: G.parts) w w1 := ((Off.refl [] w).alloc (.cells #[.string ⟨#[]⟩, .int .i64 0, .slice none 0 0, .slice none 0 0] 52))|>.mono (fun _ _ h => by simp at h) |>.trans a2 (fun _ _ h => h)
  have HO := Lib.hid hof; have HD := Lib.hid a1; have HG := Lib.hid (show w.heap.size ∉ p :: G1.parts from fun hm => by
    rcases List.mem_cons.1 hm with e | hm
    · have := hpl p (List.mem_cons_self ..); omega
    rcases HP.out _ hm with h | h
    · have := hpl _ (List.mem_cons_of_mem _ h); omega
    omega)
  have HL := Lib.hid (show ∀ b ∈ arcB v, w.heap.size < b from fun b hb => by have := hfr b hb; simp at this; omega); have HL3 := Lib.hid a4; obtain ⟨⟨tp, ca, sp, cb, rfl, _⟩, _⟩ := id hA; have HA := Lib.hid hA; clear a1 a2 a3 hpl hof HC hA hfr a4; have hc := HR.out.cell; have hf := HR.out.frozen; have hl := HR.out.lt; have hres : Tryz.f97.results = #[.cell 2 52, .tmp 3, .tmp 4] := rfl
  go_wp2_with fail
  obtain ⟨k1, k2⟩ := H.out.own1 HD.out HO.out (fun b hb => (HP.out b hb).imp id Nat.le_of_lt) (putA_off w1 w.heap.size (.string (oa.getD zA).pair) (.int .i64 (oa.getD zA).serial) (.slice tp (oa.getD zA).tree.length ca) (.slice sp (oa.getD zA).stamps.length cb)) (fun b hb => by rw [List.mem_singleton] at hb; subst hb; exact ⟨Nat.le_refl _, HG.out⟩)
  refine bodyPost_ret (v := .tuple #[.agg #[.string (oa.getD zA).pair, .int .i64 (oa.getD zA).serial, .slice tp (oa.getD zA).tree.length ca, .slice sp (oa.getD zA).stamps.length cb], .bool oa.isSome, .int .i64 0]) ?_ rfl ⟨_, rfl, HA.out.offk (putA_off w1 w.heap.size _ _ _ _) (fun b hb hm => by rw [List.mem_singleton] at hm; have := HL.out b hb; omega), fun b hb => Nat.le_of_lt (HL.out b hb), G1, k1, k2, fun b hb => (HP.out b hb).imp id Nat.le_of_lt, HL3.out⟩
  simp only [results, hres]
  go_simp
end
section
open Go.RowKit Go.Op Go.Maps
set_option maxRecDepth 100000 in
theorem cturn1_any (p n gd : Nat) (G : Geo) (D : PDisk) (W : World) (h : DS W p G D n) (hn : n ≤ 1000000) (hd : Blk W gd 25 #[.pointer (some ⟨p, 0, none⟩)]) :
    Calls Tryz.prog 152 #[.pointer (some ⟨gd, 0, none⟩)] W fun e w' => e = .returned (.int .i64 (D.replace nxtN arcN).1) ∧ DSTo W p G.parts w' (D.replace nxtN arcN).2 (n + 2) := by
  have HC := Lib.hid (dreplace_call p n G D nxtN arcN W h hn (by decide) (by decide)); obtain ⟨r, hr⟩ : ∃ r, D.replace nxtN arcN = r := ⟨_, rfl⟩
  rw [hr] at HC ⊢; unfold nxtN arcN at HC; have hc1 := hd.cell; have hl1 := hd.lt; clear h hd hr
  go_enter Tryz.func152, Tryz.ntmps152
  go_wp2_with fail
  refine HC.out.mono ?_
  rintro e w2 ⟨rfl, hT⟩; have HT := Lib.hid hT; clear hT
  go_wp2_with fail
  go_ret
  exact ⟨rfl, HT.out⟩
theorem ENT1 : ∀ args w, (callFunc 152 args).run Tryz.prog w = .ok (.enter 152 args) w := enters_of Tryz.func152 (by kernel_rfl) rfl
def TurnAt (Wb : World) (p n : Nat) (L : List Nat) (D : PDisk) : Nat → World → Prop
  | 0, W => DSTo Wb p L W D n
  | 1, W => (D.replace nxtN arcN).1 = 0 ∧ DSTo Wb p L W (D.replace nxtN arcN).2 (n + 2)
  | _, W => (D.replace nxtN arcN).1 = 0 ∧ (D.replace nxtN arcN).2.flush.1 = 0 ∧ DSTo Wb p L W (D.replace nxtN arcN).2.flush.2 (n + 4)
theorem TurnAt.to {Wb W : World} {p n i : Nat} {L : List Nat} {D : PDisk} (h : TurnAt Wb p n L D i W) : ∃ D' n', DSTo Wb p L W D' n' := by
  match i, h with
  | 0, h => exact ⟨_, _, h⟩
  | 1, h => exact ⟨_, _, h.2⟩
  | i + 2, h => exact ⟨_, _, h.2.2⟩
set_option maxRecDepth 100000 in
set_option maxHeartbeats 8000000 in
theorem cturn_call (p n : Nat) (G : Geo) (D : PDisk) (w : World) (h : DS w p G D n) (hn : n ≤ 100000) :
    Calls Tryz.prog 95 #[.pointer (some ⟨p, 0, none⟩)] w fun e w' => e = .returned (.int .i64 D.turn.1) ∧ DSTo w p G.parts w' D.turn.2 (n + 4) := by
  have H := Lib.hid h; have HSV := Lib.hid (show D.turn = if (D.replace nxtN arcN).1 ≠ 0 then D.replace nxtN arcN else (D.replace nxtN arcN).2.flush from rfl); clear h
  go_enter Tryz.func95, Tryz.ntmps95
  go_upto_region 1 with fail
  refine code_gen (fun W => Blk W w.heap.size 25 #[.pointer (some ⟨p, 0, none⟩)] ∧ Off [] w W) ⟨Blk.new w _ _, (Off.refl _ _).alloc _⟩ ?_
  rintro Wx ⟨k1, ko⟩; obtain ⟨Wb, hWb⟩ : ∃ Wb, Wx.alloc (.cells #[.func (.func 152) #[] #[.pointer (some ⟨w.heap.size, 0, none⟩)], .func (.func 38) #[.pointer (some ⟨p, 0, none⟩)] #[]] 85) = Wb := ⟨_, rfl⟩
  have hbs : Blk Wb Wx.heap.size 85 #[.func (.func 152) #[] #[.pointer (some ⟨w.heap.size, 0, none⟩)], .func (.func 38) #[.pointer (some ⟨p, 0, none⟩)] #[]] := by rw [← hWb]; exact Blk.new Wx _ _
  have hob : Off [] Wx Wb := by rw [← hWb]; exact (Off.refl _ _).alloc _
  have hW : Off [] w Wb := ko.trans_nil hob
  have hfar : ∀ g, w.heap.size ≤ g → g ∉ p :: G.parts := fun g hg hm => by
    rcases List.mem_cons.1 hm with rfl | hm
    · have := H.out.m.blk.lt; omega
    have := H.out.m.parts.lt hm; omega
  have hwx : w.heap.size ≤ Wx.heap.size := ko.size
  have k1b := k1.off hob (by simp); have HU := Lib.hid (cuntil_any Wx.heap.size 2 2 [(152, #[], #[.pointer (some ⟨w.heap.size, 0, none⟩)]), (38, #[.pointer (some ⟨p, 0, none⟩)], #[])]
    (TurnAt Wb p n G.parts D) (fun v W => v = D.turn.1 ∧ DSTo Wb p G.parts W D.turn.2 (n + 4)) Wb rfl (by decide) ((H.out.off hW).refl)
    (fun i W hP => by
      obtain ⟨D', n', hT⟩ := hP.to; have hB := hT.keep hbs (hfar _ hwx); refine ⟨hB.lt, fun j f hj => ?_⟩; rw [hB.cell]
      match j, hj with
      | 0, hj => cases hj; rfl
      | 1, hj => cases hj; rfl
      | j + 2, hj => simp at hj)
    (fun i f W hf hP => by
      match i, hf, hP with
      | 0, hf, hP =>
        cases hf
        have hT : DSTo Wb p G.parts W D n := hP
        obtain ⟨G1, h1, ho, hp⟩ := hT; refine (cturn1_any p n _ G1 D W h1 (by omega) (k1b.off ho (hfar _ (Nat.le_refl _)))).mono ?_; rintro e w' ⟨rfl, hT2⟩; have hT3 := DSTo.step ho hp hT2; refine ⟨_, rfl, fun hv => ⟨hv, hT3⟩, fun hv => ?_⟩; rw [HSV.out, if_pos hv]; exact ⟨rfl, hT3.le (by omega)⟩
      | 1, hf, hP =>
        cases hf
        obtain ⟨e1, hT⟩ : (D.replace nxtN arcN).1 = 0 ∧ DSTo Wb p G.parts W (D.replace nxtN arcN).2 (n + 2) := hP
        obtain ⟨G1, h1, ho, hp⟩ := hT; refine (flush_call p (n + 2) G1 _ W h1 (by omega)).mono ?_; rintro e w' ⟨rfl, hT2⟩; have hT3 := DSTo.step ho hp hT2; refine ⟨_, rfl, fun hv => ⟨e1, hv, hT3⟩, fun hv => ?_⟩; rw [HSV.out, if_neg (by rw [e1]; decide)]; exact ⟨rfl, hT3⟩
      | i + 2, hf, hP => simp at hf)
    (fun W hP => by
      obtain ⟨e1, e2, hT⟩ : (D.replace nxtN arcN).1 = 0 ∧ (D.replace nxtN arcN).2.flush.1 = 0 ∧ DSTo Wb p G.parts W (D.replace nxtN arcN).2.flush.2 (n + 4) := hP
      rw [HSV.out, if_neg (by rw [e1]; decide)]; exact ⟨e2.symm, hT⟩)
    (fun f hf => by
      simp only [List.mem_cons, List.not_mem_nil, or_false] at hf
      rcases hf with rfl | rfl
      · exact ENT1
      exact ENF))
  have HW := Lib.hid hW; have hc1 := k1.cell; have hl1 := k1.lt; clear ko hbs hob hW hfar hwx k1b k1 HSV
  go_wp2_with fail
  refine HU.out.mono ?_
  rintro e w2 ⟨v, rfl, rfl, hT⟩; have HT := Lib.hid hT; clear hT hc1 hl1
  go_wp2_with fail
  go_ret
  exact ⟨rfl, DSTo.step (G1 := G) (HW.out.mono (fun _ _ h => by simp at h)) (fun _ hb => .inl hb) HT.out⟩
end
section
open Go.RowKit Go.Op Go.Maps
section
variable (p n gd gt : Nat) (G : Geo) (D : PDisk) (W : World)
set_option maxRecDepth 100000 in
theorem ccommit1_any (text : ByteArray) (h : DS W p G D n) (hn : n ≤ 100000) (hd : Blk W gd 25 #[.pointer (some ⟨p, 0, none⟩)]) (ht : Blk W gt 9 #[.string text]) :
    Calls Tryz.prog 91 #[.pointer (some ⟨gd, 0, none⟩), .pointer (some ⟨gt, 0, none⟩)] W fun e w' => e = .returned (.int .i64 (D.save nxtN text).1) ∧ DSTo W p G.parts w' (D.save nxtN text).2 (n + 8) := by
  have HC := Lib.hid (dsave_call p n G D nxtN text W h hn (by decide)); obtain ⟨r, hr⟩ : ∃ r, D.save nxtN text = r := ⟨_, rfl⟩
  rw [hr] at HC ⊢; unfold nxtN at HC; have hc1 := hd.cell; have hl1 := hd.lt; have hc2 := ht.cell; have hl2 := ht.lt; clear h hd ht hr
  go_enter Tryz.func91, Tryz.ntmps91
  go_wp2_with fail
  refine HC.out.mono ?_
  rintro e w2 ⟨rfl, hT⟩; have HT := Lib.hid hT; clear hT
  go_wp2_with fail
  go_ret
  exact ⟨rfl, HT.out⟩
set_option maxRecDepth 100000 in
theorem ccommit2_any (text : ByteArray) (h : DS W p G D n) (hn : n ≤ 100000) (hd : Blk W gd 25 #[.pointer (some ⟨p, 0, none⟩)]) (ht : Blk W gt 9 #[.string text]) :
    Calls Tryz.prog 93 #[.pointer (some ⟨gd, 0, none⟩), .pointer (some ⟨gt, 0, none⟩)] W fun e w' => e = .returned (.int .i64 (D.save nxtN text).1) ∧ DSTo W p G.parts w' (D.save nxtN text).2 (n + 8) := by
  have HC := Lib.hid (dsave_call p n G D nxtN text W h hn (by decide)); obtain ⟨r, hr⟩ : ∃ r, D.save nxtN text = r := ⟨_, rfl⟩
  rw [hr] at HC ⊢; unfold nxtN at HC; have hc1 := hd.cell; have hl1 := hd.lt; have hc2 := ht.cell; have hl2 := ht.lt; clear h hd ht hr
  go_enter Tryz.func93, Tryz.ntmps93
  go_wp2_with fail
  refine HC.out.mono ?_
  rintro e w2 ⟨rfl, hT⟩; have HT := Lib.hid hT; clear hT
  go_wp2_with fail
  go_ret
  exact ⟨rfl, HT.out⟩
set_option maxRecDepth 100000 in
theorem ccommit3_any (h : DS W p G D n) (hn : n ≤ 100000) (hd : Blk W gd 25 #[.pointer (some ⟨p, 0, none⟩)]) :
    Calls Tryz.prog 94 #[.pointer (some ⟨gd, 0, none⟩)] W fun e w' => e = .returned (.int .i64 D.turn.1) ∧ DSTo W p G.parts w' D.turn.2 (n + 4) := by
  have HC := Lib.hid (cturn_call p n G D W h hn); have hc1 := hd.cell; have hl1 := hd.lt; clear h hd
  go_enter Tryz.func94, Tryz.ntmps94
  go_wp2_with fail
  refine HC.out.mono ?_
  rintro e w2 ⟨rfl, hT⟩; have HT := Lib.hid hT; clear hT
  go_wp2_with fail
  go_ret
  exact ⟨rfl, HT.out⟩
set_option maxRecDepth 100000 in
theorem ccommit4_any (h : DS W p G D n) (hn : n ≤ 100000) (hd : Blk W gd 25 #[.pointer (some ⟨p, 0, none⟩)]) :
    Calls Tryz.prog 96 #[.pointer (some ⟨gd, 0, none⟩)] W fun e w' => e = .returned (.int .i64 D.turn.1) ∧ DSTo W p G.parts w' D.turn.2 (n + 4) := by
  have HC := Lib.hid (cturn_call p n G D W h hn); have hc1 := hd.cell; have hl1 := hd.lt; clear h hd
  go_enter Tryz.func96, Tryz.ntmps96
  go_wp2_with fail
  refine HC.out.mono ?_
  rintro e w2 ⟨rfl, hT⟩; have HT := Lib.hid hT; clear hT
  go_wp2_with fail
  go_ret
  exact ⟨rfl, HT.out⟩
set_option maxRecDepth 100000 in
theorem crecover1_any (h : DS W p G D n) (hn : n ≤ 100000) (hd : Blk W gd 25 #[.pointer (some ⟨p, 0, none⟩)]) :
    Calls Tryz.prog 100 #[.pointer (some ⟨gd, 0, none⟩)] W fun e w' => e = .returned (.int .i64 (D.clear nxtN).1) ∧ DSTo W p G.parts w' (D.clear nxtN).2 (n + 4) := by
  have HC := Lib.hid (dclear_call p n G D nxtN W h hn (by decide)); obtain ⟨r, hr⟩ : ∃ r, D.clear nxtN = r := ⟨_, rfl⟩
  rw [hr] at HC ⊢; unfold nxtN at HC; have hc1 := hd.cell; have hl1 := hd.lt; clear h hd hr
  go_enter Tryz.func100, Tryz.ntmps100
  go_wp2_with fail
  refine HC.out.mono ?_
  rintro e w2 ⟨rfl, hT⟩; have HT := Lib.hid hT; clear hT
  go_wp2_with fail
  go_ret
  exact ⟨rfl, HT.out⟩
set_option maxRecDepth 100000 in
theorem crecover2_any (h : DS W p G D n) (hn : n ≤ 100000) (hd : Blk W gd 25 #[.pointer (some ⟨p, 0, none⟩)]) :
    Calls Tryz.prog 102 #[.pointer (some ⟨gd, 0, none⟩)] W fun e w' => e = .returned (.int .i64 (D.clear nxtN).1) ∧ DSTo W p G.parts w' (D.clear nxtN).2 (n + 4) := by
  have HC := Lib.hid (dclear_call p n G D nxtN W h hn (by decide)); obtain ⟨r, hr⟩ : ∃ r, D.clear nxtN = r := ⟨_, rfl⟩
  rw [hr] at HC ⊢; unfold nxtN at HC; have hc1 := hd.cell; have hl1 := hd.lt; clear h hd hr
  go_enter Tryz.func102, Tryz.ntmps102
  go_wp2_with fail
  refine HC.out.mono ?_
  rintro e w2 ⟨rfl, hT⟩; have HT := Lib.hid hT; clear hT
  go_wp2_with fail
  go_ret
  exact ⟨rfl, HT.out⟩
end
theorem ENM1 : ∀ args w, (callFunc 91 args).run Tryz.prog w = .ok (.enter 91 args) w := enters_of Tryz.func91 (by kernel_rfl) rfl
theorem ENM2 : ∀ args w, (callFunc 93 args).run Tryz.prog w = .ok (.enter 93 args) w := enters_of Tryz.func93 (by kernel_rfl) rfl
theorem ENM3 : ∀ args w, (callFunc 94 args).run Tryz.prog w = .ok (.enter 94 args) w := enters_of Tryz.func94 (by kernel_rfl) rfl
theorem ENM4 : ∀ args w, (callFunc 96 args).run Tryz.prog w = .ok (.enter 96 args) w := enters_of Tryz.func96 (by kernel_rfl) rfl
theorem ENR1 : ∀ args w, (callFunc 100 args).run Tryz.prog w = .ok (.enter 100 args) w := enters_of Tryz.func100 (by kernel_rfl) rfl
theorem ENR2 : ∀ args w, (callFunc 102 args).run Tryz.prog w = .ok (.enter 102 args) w := enters_of Tryz.func102 (by kernel_rfl) rfl
end
section
open Go.RowKit Go.Op Go.Maps
set_option maxRecDepth 100000 in
set_option maxHeartbeats 8000000 in
theorem commit_no (pa pb : Nat) (v1 v2 : Value) (x y : Arc) (w : World) (hA : ArcAt w v1 x) (hB : ArcAt w v2 y) (hl1 : x.tree.length ≤ 1099511627776) (hl2 : y.tree.length ≤ 1099511627776) (hT : Tabs w) (hm : matchV x y = false) :
    Calls Tryz.prog 42 #[.pointer (some ⟨pa, 0, none⟩), .pointer (some ⟨pb, 0, none⟩), v1, v2] w fun e w' => e = .returned (.int .i64 90) ∧ Off [] w w' := by
  have HM := Lib.hid (fun (W : World) (ho : Off [] w W) => amatch_any v1 v2 x y W (hA.off ho) (hB.off ho) hl1 hl2 (hT.off ho) false hm); obtain ⟨⟨tp, ca, sp, cb, rfl, _⟩, _⟩ := hA; obtain ⟨⟨tp2, ca2, sp2, cb2, rfl, _⟩, _⟩ := hB; clear hT hm
  go_enter Tryz.func42, Tryz.ntmps42
  go_wp2_with fail
  refine (HM.out _ (((((Off.refl _ _).alloc _).alloc _).alloc _).alloc _)).mono ?_
  rintro e w1 ⟨rfl, ho1⟩; have HO := Lib.hid (show Off [] w w1 from (((((Off.refl _ _).alloc _).alloc _).alloc _).alloc _).trans_nil ho1); clear ho1 HM
  go_wp2_with fail
  go_ret
  exact ⟨rfl, HO.out⟩
def cN (n : Nat) : Nat → Nat | 0 => n | 1 => n + 8 | 2 => n + 8 | _ => n + 12
def cM (m : Nat) : Nat → Nat | 0 => m | 1 => m | 2 => m + 8 | 3 => m + 8 | _ => m + 12
def cA (A : PDisk) (s : ByteArray) : Nat → PDisk | 0 => A | 1 => (A.save nxtN s).2 | 2 => (A.save nxtN s).2 | _ => (A.save nxtN s).2.turn.2
def cB (B : PDisk) (t : ByteArray) : Nat → PDisk | 0 => B | 1 => B | 2 => (B.save nxtN t).2 | 3 => (B.save nxtN t).2 | _ => (B.save nxtN t).2.turn.2
set_option maxRecDepth 100000 in
set_option maxHeartbeats 16000000 in
theorem commit_ok (w0 : World) (pa n pb m : Nat) (A B : PDisk) (K : List Nat) (v1 v2 : Value) (x y : Arc) (w : World) (h : TwoP w0 w pa A n pb B m K) (hn : n ≤ 90000) (hm : m ≤ 90000)
    (hA : ArcAt w v1 x) (hB : ArcAt w v2 y) (hl1 : x.tree.length ≤ 1099511627776) (hl2 : y.tree.length ≤ 1099511627776) (hmt : matchV x y = true)
    (s1 : (A.save nxtN (encV x)).1 = 0) (s2 : (B.save nxtN (encV y)).1 = 0) (t1 : (A.save nxtN (encV x)).2.turn.1 = 0) (t2 : (B.save nxtN (encV y)).2.turn.1 = 0) :
    Calls Tryz.prog 42 #[.pointer (some ⟨pa, 0, none⟩), .pointer (some ⟨pb, 0, none⟩), v1, v2] w fun e w' =>
      e = .returned (.int .i64 0) ∧ TwoP w0 w' pa (A.save nxtN (encV x)).2.turn.2 (n + 12) pb (B.save nxtN (encV y)).2.turn.2 (m + 12) K ∧ Kep K w w' := by
  have hx : okArc x = true := by unfold matchV at hmt; simp only [Bool.and_eq_true] at hmt; exact hmt.1
  have hy : okArc y = true := by unfold matchV at hmt; simp only [Bool.and_eq_true] at hmt; exact hmt.2.1
  have hT := h.tabs; have HM := Lib.hid (fun (W : World) (ho : Off [] w W) => amatch_any v1 v2 x y W (hA.off ho) (hB.off ho) hl1 hl2 (hT.off ho) true hmt); have HE1 := Lib.hid (fun (W : World) (ho : Off [] w W) => encode_any v1 x W (hA.off ho) (hT.off ho) hx); have HE2 := Lib.hid (fun (W : World) (ho : Off [] w W) => encode_any v2 y W (hB.off ho) (hT.off ho) hy)
  obtain ⟨⟨tp, ca, sp, cb, rfl, _⟩, _⟩ := hA; obtain ⟨⟨tp2, ca2, sp2, cb2, rfl, _⟩, _⟩ := hB; obtain ⟨s, hs⟩ : ∃ s, encV x = s := ⟨_, rfl⟩
  obtain ⟨t, ht⟩ : ∃ t, encV y = t := ⟨_, rfl⟩
  rw [hs] at HE1 s1 t1 ⊢; rw [ht] at HE2 s2 t2 ⊢; have H := Lib.hid h; have HZ := Lib.hid (And.intro s1 (And.intro s2 (And.intro t1 t2))); clear hT hmt h hx hy hs ht s1 s2 t1 t2
  go_enter Tryz.func42, Tryz.ntmps42
  go_upto_region 1 with fail
  refine code_gen (fun W => Hid (Off [] w W ∧ Blk W w.heap.size 25 #[.pointer (some ⟨pa, 0, none⟩)] ∧ Blk W (w.heap.size + 1) 25 #[.pointer (some ⟨pb, 0, none⟩)] ∧ Blk W (w.heap.size + 1 + 1) 52 #[.string x.pair, .int .i64 x.serial, .slice tp x.tree.length ca, .slice sp x.stamps.length cb] ∧ Blk W (w.heap.size + 1 + 1 + 1) 52 #[.string y.pair, .int .i64 y.serial, .slice tp2 y.tree.length ca2, .slice sp2 y.stamps.length cb2]))
    (Lib.hid ⟨((((Off.refl _ _).alloc _).alloc _).alloc _).alloc _, (((Blk.new w _ _).alloc _).alloc _).alloc _, ((Blk.new1 w _ _ _).alloc _).alloc _, (Blk.new2 w _ _ _ _).alloc _, by
      have := Blk.new (((w.alloc (.cells #[.pointer (some ⟨pa, 0, none⟩)] 25)).alloc (.cells #[.pointer (some ⟨pb, 0, none⟩)] 25)).alloc (.cells #[.string x.pair, .int .i64 x.serial, .slice tp x.tree.length ca, .slice sp x.stamps.length cb] 52)) 52 #[.string y.pair, .int .i64 y.serial, .slice tp2 y.tree.length ca2, .slice sp2 y.stamps.length cb2]
      simpa using this⟩) ?_
  rintro W1 HW1; have c2 := HW1.out.2.2.2.1.cell; have l2 := HW1.out.2.2.2.1.lt; have c3 := HW1.out.2.2.2.2.cell; have l3 := HW1.out.2.2.2.2.lt
  go_wp2_with fail
  refine (HM.out _ HW1.out.1).mono ?_
  rintro e w2 ⟨rfl, ho2⟩
  have HW2 := Lib.hid (show Off [] w w2 ∧ Blk w2 w.heap.size 25 #[.pointer (some ⟨pa, 0, none⟩)] ∧ Blk w2 (w.heap.size + 1) 25 #[.pointer (some ⟨pb, 0, none⟩)] ∧ Blk w2 (w.heap.size + 1 + 1) 52 #[.string x.pair, .int .i64 x.serial, .slice tp x.tree.length ca, .slice sp x.stamps.length cb] ∧ Blk w2 (w.heap.size + 1 + 1 + 1) 52 #[.string y.pair, .int .i64 y.serial, .slice tp2 y.tree.length ca2, .slice sp2 y.stamps.length cb2] from
    ⟨HW1.out.1.trans_nil ho2, HW1.out.2.1.off ho2 (by simp), HW1.out.2.2.1.off ho2 (by simp), HW1.out.2.2.2.1.off ho2 (by simp), HW1.out.2.2.2.2.off ho2 (by simp)⟩)
  clear ho2 c2 l2 c3 l3 HW1 HM; have c2 := HW2.out.2.2.2.1.cell; have l2 := HW2.out.2.2.2.1.lt
  go_wp2_with fail
  refine (HE1.out _ HW2.out.1).mono ?_
  rintro e w3 ⟨rfl, ho3⟩; have HW3 := Lib.hid (show Off [] w w3 ∧ Blk w3 w.heap.size 25 #[.pointer (some ⟨pa, 0, none⟩)] ∧ Blk w3 (w.heap.size + 1) 25 #[.pointer (some ⟨pb, 0, none⟩)] ∧ Blk w3 (w.heap.size + 1 + 1 + 1) 52 #[.string y.pair, .int .i64 y.serial, .slice tp2 y.tree.length ca2, .slice sp2 y.stamps.length cb2] from
    ⟨HW2.out.1.trans_nil ho3, HW2.out.2.1.off ho3 (by simp), HW2.out.2.2.1.off ho3 (by simp), HW2.out.2.2.2.2.off ho3 (by simp)⟩)
  clear ho3 c2 l2 HW2 HE1
  go_upto_region 4 with fail
  refine code_gen (fun W => Hid (Off [] w W ∧ Blk W w.heap.size 25 #[.pointer (some ⟨pa, 0, none⟩)] ∧ Blk W (w.heap.size + 1) 25 #[.pointer (some ⟨pb, 0, none⟩)] ∧ Blk W (w.heap.size + 1 + 1 + 1) 52 #[.string y.pair, .int .i64 y.serial, .slice tp2 y.tree.length ca2, .slice sp2 y.stamps.length cb2] ∧ Blk W w3.heap.size 9 #[.string s]))
    (Lib.hid ⟨HW3.out.1.alloc _, HW3.out.2.1.alloc _, HW3.out.2.2.1.alloc _, HW3.out.2.2.2.alloc _, Blk.new w3 _ _⟩) ?_
  rintro W4 HW4; obtain ⟨g9, hg9⟩ : ∃ g9, w3.heap.size = g9 := ⟨_, rfl⟩
  have HG9 := Lib.hid (show w.heap.size ≤ g9 from by rw [← hg9]; exact HW3.out.1.size); rw [hg9] at HW4; rw [hg9]; clear hg9 HW3; have c3 := HW4.out.2.2.2.1.cell; have l3 := HW4.out.2.2.2.1.lt
  go_wp2_with fail
  refine (HE2.out _ HW4.out.1).mono ?_
  rintro e w5 ⟨rfl, ho5⟩; have HW5 := Lib.hid (show Off [] w w5 ∧ Blk w5 w.heap.size 25 #[.pointer (some ⟨pa, 0, none⟩)] ∧ Blk w5 (w.heap.size + 1) 25 #[.pointer (some ⟨pb, 0, none⟩)] ∧ Blk w5 g9 9 #[.string s] from
    ⟨HW4.out.1.trans_nil ho5, HW4.out.2.1.off ho5 (by simp), HW4.out.2.2.1.off ho5 (by simp), HW4.out.2.2.2.2.off ho5 (by simp)⟩)
  clear ho5 c3 l3 HW4 HE2
  go_upto_region 5 with fail
  refine code_gen (fun W => Off [] w W ∧ Blk W w.heap.size 25 #[.pointer (some ⟨pa, 0, none⟩)] ∧ Blk W (w.heap.size + 1) 25 #[.pointer (some ⟨pb, 0, none⟩)] ∧ Blk W g9 9 #[.string s] ∧ Blk W w5.heap.size 9 #[.string t])
    ⟨HW5.out.1.alloc _, HW5.out.2.1.alloc _, HW5.out.2.2.1.alloc _, HW5.out.2.2.2.alloc _, Blk.new w5 _ _⟩ ?_
  rintro Wx ⟨ko, k1, k2, k3, k4⟩; obtain ⟨g11, hg11⟩ : ∃ g11, w5.heap.size = g11 := ⟨_, rfl⟩
  have hg11' : w.heap.size ≤ g11 := by rw [← hg11]; exact HW5.out.1.size
  rw [hg11] at k4; rw [hg11]; clear hg11 HW5
  obtain ⟨Wb, hWb⟩ : ∃ Wb, Wx.alloc (.cells #[.func (.func 91) #[] #[.pointer (some ⟨w.heap.size, 0, none⟩), .pointer (some ⟨g9, 0, none⟩)], .func (.func 93) #[] #[.pointer (some ⟨w.heap.size + 1, 0, none⟩), .pointer (some ⟨g11, 0, none⟩)], .func (.func 94) #[] #[.pointer (some ⟨w.heap.size, 0, none⟩)], .func (.func 96) #[] #[.pointer (some ⟨w.heap.size + 1, 0, none⟩)]] 85) = Wb := ⟨_, rfl⟩
  have hbs : Blk Wb Wx.heap.size 85 #[.func (.func 91) #[] #[.pointer (some ⟨w.heap.size, 0, none⟩), .pointer (some ⟨g9, 0, none⟩)], .func (.func 93) #[] #[.pointer (some ⟨w.heap.size + 1, 0, none⟩), .pointer (some ⟨g11, 0, none⟩)], .func (.func 94) #[] #[.pointer (some ⟨w.heap.size, 0, none⟩)], .func (.func 96) #[] #[.pointer (some ⟨w.heap.size + 1, 0, none⟩)]] := by rw [← hWb]; exact Blk.new Wx _ _
  have hob : Off [] Wx Wb := by rw [← hWb]; exact (Off.refl _ _).alloc _
  have hW : Off [] w Wb := ko.trans_nil hob
  have k1b := k1.off hob (by simp); have k2b := k2.off hob (by simp); have k3b := k3.off hob (by simp); have k4b := k4.off hob (by simp); obtain ⟨K', hK'⟩ : ∃ K', [w.heap.size, w.heap.size + 1, g9, g11, Wx.heap.size] ++ K = K' := ⟨_, rfl⟩
  have m1 : w.heap.size ∈ K' := by rw [← hK']; simp
  have m2 : w.heap.size + 1 ∈ K' := by rw [← hK']; simp
  have m3 : g9 ∈ K' := by rw [← hK']; simp
  have m4 : g11 ∈ K' := by rw [← hK']; simp
  have m5 : Wx.heap.size ∈ K' := by rw [← hK']; simp
  have mK : ∀ b ∈ K, b ∈ K' := fun b hb => by rw [← hK']; exact List.mem_append_right _ hb
  have hT0 : TwoP w0 Wb pa A n pb B m K' := by
    rw [← hK']; refine H.out.more hW (fun b hb => ?_); have a1 := k1b.lt; have a2 := k2b.lt; have a3 := k3b.lt; have a4 := k4b.lt; have a5 := hbs.lt; have a6 := ko.size; have a7 := HG9.out; simp only [List.mem_cons, List.not_mem_nil, or_false] at hb; omega
  have hk0 : Kep K w Wb := H.out.kep hW
  have HU := Lib.hid (cuntil_any Wx.heap.size 4 4 [(91, #[], #[.pointer (some ⟨w.heap.size, 0, none⟩), .pointer (some ⟨g9, 0, none⟩)]), (93, #[], #[.pointer (some ⟨w.heap.size + 1, 0, none⟩), .pointer (some ⟨g11, 0, none⟩)]), (94, #[], #[.pointer (some ⟨w.heap.size, 0, none⟩)]), (96, #[], #[.pointer (some ⟨w.heap.size + 1, 0, none⟩)])]
    (fun i W => TwoP w0 W pa (cA A s i) (cN n i) pb (cB B t i) (cM m i) K' ∧ Kep K' Wb W) (fun v W => v = 0 ∧ TwoP w0 W pa (A.save nxtN s).2.turn.2 (n + 12) pb (B.save nxtN t).2.turn.2 (m + 12) K ∧ Kep K w W) Wb rfl (by decide) ⟨hT0, Kep.refl⟩
    (fun i W hP => by
      have hB := hP.2.blk hbs m5; refine ⟨hB.lt, fun j f hj => ?_⟩; rw [hB.cell]
      match j, hj with
      | 0, hj => cases hj; rfl
      | 1, hj => cases hj; rfl
      | 2, hj => cases hj; rfl
      | 3, hj => cases hj; rfl
      | j + 4, hj => simp at hj)
    (fun i f W hf hP => by
      match i, hf, hP with
      | 0, hf, hP =>
        cases hf
        have hT : TwoP w0 W pa A n pb B m K' := hP.1
        refine (hT.callA (R := fun e _ => e = .returned (.int .i64 (A.save nxtN s).1)) (fun G hG => ccommit1_any pa n _ _ G A W s hG (by omega) (hP.2.blk k1b m1) (hP.2.blk k3b m3))).mono ?_
        rintro e w' ⟨rfl, h2, h3⟩; exact ⟨_, rfl, fun _ => ⟨h2, hP.2.trans h3⟩, fun hv => absurd HZ.out.1 hv⟩
      | 1, hf, hP =>
        cases hf
        have hT : TwoP w0 W pa (A.save nxtN s).2 (n + 8) pb B m K' := hP.1
        refine (hT.callB (R := fun e _ => e = .returned (.int .i64 (B.save nxtN t).1)) (fun G hG => ccommit2_any pb m _ _ G B W t hG (by omega) (hP.2.blk k2b m2) (hP.2.blk k4b m4))).mono ?_
        rintro e w' ⟨rfl, h2, h3⟩; exact ⟨_, rfl, fun _ => ⟨h2, hP.2.trans h3⟩, fun hv => absurd HZ.out.2.1 hv⟩
      | 2, hf, hP =>
        cases hf
        have hT : TwoP w0 W pa (A.save nxtN s).2 (n + 8) pb (B.save nxtN t).2 (m + 8) K' := hP.1
        refine (hT.callA (R := fun e _ => e = .returned (.int .i64 (A.save nxtN s).2.turn.1)) (fun G hG => ccommit3_any pa (n + 8) _ G _ W hG (by omega) (hP.2.blk k1b m1))).mono ?_
        rintro e w' ⟨rfl, h2, h3⟩; exact ⟨_, rfl, fun _ => ⟨h2, hP.2.trans h3⟩, fun hv => absurd HZ.out.2.2.1 hv⟩
      | 3, hf, hP =>
        cases hf
        have hT : TwoP w0 W pa (A.save nxtN s).2.turn.2 (n + 12) pb (B.save nxtN t).2 (m + 8) K' := hP.1
        refine (hT.callB (R := fun e _ => e = .returned (.int .i64 (B.save nxtN t).2.turn.1)) (fun G hG => ccommit4_any pb (m + 8) _ G _ W hG (by omega) (hP.2.blk k2b m2))).mono ?_
        rintro e w' ⟨rfl, h2, h3⟩; exact ⟨_, rfl, fun _ => ⟨h2, hP.2.trans h3⟩, fun hv => absurd HZ.out.2.2.2 hv⟩
      | i + 4, hf, hP => simp at hf)
    (fun W hP => ⟨rfl, TwoP.drop hP.1 mK, hk0.trans (hP.2.sub mK)⟩)
    (fun f hf => by
      simp only [List.mem_cons, List.not_mem_nil, or_false] at hf
      rcases hf with rfl | rfl | rfl | rfl
      · exact ENM1
      · exact ENM2
      · exact ENM3
      exact ENM4))
  clear hbs hob hW k1b k2b k3b k4b k1 k2 k3 k4 ko m1 m2 m3 m4 m5 mK hK' hT0 hk0 H HZ HG9 hg11'
  go_wp2_with fail
  refine HU.out.mono ?_
  rintro e w6 ⟨v, rfl, rfl, hT⟩; have HT := Lib.hid hT; clear hT HU
  go_wp2_with fail
  go_ret
  exact ⟨rfl, HT.out⟩
end
section
open Go.RowKit Go.Op Go.Maps
theorem TwoP.loadA {w0 w : World} {pa n pb m n' : Nat} {A B A' : PDisk} {K : List Nat} {f : FuncId} {args : Array Value} {oa : Option Arc} (h : TwoP w0 w pa A n pb B m K) (hc : ∀ G, DS w pa G A n → Calls Tryz.prog f args w (LdTo w pa G.parts A' n' oa)) :
    Calls Tryz.prog f args w fun e w' => ∃ v, e = .returned (.tuple #[v, .bool oa.isSome, .int .i64 0]) ∧ ArcAt w' v (oa.getD zA) ∧ TwoP w0 w' pa A' n' pb B m (arcL v (oa.getD zA) ++ K) ∧ Kep K w w' ∧ ∀ b ∈ arcL v (oa.getD zA), w.heap.size ≤ b := by
  obtain ⟨Ga, Gb, h⟩ := h; refine (hc Ga h.a).mono fun e w' ⟨v, he, hA, hfr, Ga', h1, h2, h3, h4⟩ => ⟨v, he, hA, ?_⟩
  obtain ⟨k1, k2⟩ := h.to h1 h2 h3; refine ⟨⟨Ga', Gb, k1.a, k1.b, k1.ab, k1.since, k1.la, k1.lb, k1.tabs, fun x hx => ?_⟩, k2, fun b hb => hfr b (arcL_sub b hb)⟩
  rcases List.mem_append.1 hx with hx | hx
  · exact ⟨hA.lt x hx, h4 x (arcL_sub x hx), fun hm => by have := h.b.lt x hm; have := hfr x (arcL_sub x hx); omega⟩
  exact k1.far x hx
theorem TwoP.loadB {w0 w : World} {pa n pb m m' : Nat} {A B B' : PDisk} {K : List Nat} {f : FuncId} {args : Array Value} {oa : Option Arc} (h : TwoP w0 w pa A n pb B m K) (hc : ∀ G, DS w pb G B m → Calls Tryz.prog f args w (LdTo w pb G.parts B' m' oa)) :
    Calls Tryz.prog f args w fun e w' => ∃ v, e = .returned (.tuple #[v, .bool oa.isSome, .int .i64 0]) ∧ ArcAt w' v (oa.getD zA) ∧ TwoP w0 w' pa A n pb B' m' (arcL v (oa.getD zA) ++ K) ∧ Kep K w w' ∧ ∀ b ∈ arcL v (oa.getD zA), w.heap.size ≤ b :=
  (h.swap.loadA hc).mono fun _ _ ⟨v, he, hA, h1, h2⟩ => ⟨v, he, hA, h1.swap, h2⟩
def rcA (A : PDisk) : Nat → PDisk | 0 => A | 1 => (A.clear nxtN).2 | 2 => (A.clear nxtN).2 | _ => (A.clear nxtN).2.flush.2
def rcB (B : PDisk) : Nat → PDisk | 0 => B | 1 => B | 2 => (B.clear nxtN).2 | 3 => (B.clear nxtN).2 | _ => (B.clear nxtN).2.flush.2
def rcN (n : Nat) : Nat → Nat | 0 => n | 1 => n + 4 | 2 => n + 4 | _ => n + 6
def rcM (m : Nat) : Nat → Nat | 0 => m | 1 => m | 2 => m + 4 | 3 => m + 4 | _ => m + 6
set_option maxRecDepth 100000 in
set_option maxHeartbeats 16000000 in
theorem recover_ok (w0 : World) (pa n pb m : Nat) (A B : PDisk) (K : List Nat) (w : World) (h : TwoP w0 w pa A n pb B m K) (hn : n ≤ 90000) (hm : m ≤ 90000)
    (o : Option ByteArray) (oa : Option Arc) (hl : (A.load arcN).1 = (o.getD ⟨#[]⟩, o.isSome, 0)) (hT : TellA o oa) (hl2 : (B.load nxtN).1 = (⟨#[]⟩, false, 0))
    (s1 : ((A.load arcN).2.clear nxtN).1 = 0) (s2 : ((B.load nxtN).2.clear nxtN).1 = 0) (t1 : ((A.load arcN).2.clear nxtN).2.flush.1 = 0) (t2 : ((B.load nxtN).2.clear nxtN).2.flush.1 = 0) :
    Calls Tryz.prog 49 #[.pointer (some ⟨pa, 0, none⟩), .pointer (some ⟨pb, 0, none⟩)] w fun e w' =>
      e = .returned (.int .i64 0) ∧ TwoP w0 w' pa ((A.load arcN).2.clear nxtN).2.flush.2 (n + 7) pb ((B.load nxtN).2.clear nxtN).2.flush.2 (m + 7) K ∧ Kep K w w' := by
  have HLA := Lib.hid (fun (W : World) (G : Geo) (hG : DS W pa G A n) => cLoad_call pa n G A o oa W hG (by omega) hl hT); have HLB := Lib.hid (fun (W : World) (G : Geo) (hG : DS W pb G B m) => cload_call pb m G B nxtN none none W hG (by omega) (by decide) hl2 (.inl ⟨rfl, rfl⟩)); obtain ⟨A1, hA1⟩ : ∃ A1, (A.load arcN).2 = A1 := ⟨_, rfl⟩
  obtain ⟨B1, hB1⟩ : ∃ B1, (B.load nxtN).2 = B1 := ⟨_, rfl⟩
  rw [hA1] at HLA s1 t1 ⊢; rw [hB1] at HLB s2 t2 ⊢; have H := Lib.hid h; have HZ := Lib.hid (And.intro s1 (And.intro s2 (And.intro t1 t2))); clear h s1 s2 t1 t2 hl hT hl2 hA1 hB1; unfold nxtN at HLB
  go_enter Tryz.func49, Tryz.ntmps49
  go_upto_region 1 with fail
  refine code_gen (fun W => Hid (Off [] w W ∧ Blk W w.heap.size 25 #[.pointer (some ⟨pa, 0, none⟩)] ∧ Blk W (w.heap.size + 1) 25 #[.pointer (some ⟨pb, 0, none⟩)])) (Lib.hid ⟨((Off.refl _ _).alloc _).alloc _, (Blk.new w _ _).alloc _, Blk.new1 w _ _ _⟩) ?_
  rintro W1 HW1; have HT1 := Lib.hid (show TwoP w0 W1 pa A n pb B m ([w.heap.size, w.heap.size + 1] ++ K) from H.out.more HW1.out.1 (fun b hb => by
    have a1 := HW1.out.2.1.lt; have a2 := HW1.out.2.2.lt; simp only [List.mem_cons, List.not_mem_nil, or_false] at hb; omega))
  have HK1 := Lib.hid (H.out.kep HW1.out.1); have c1 := HW1.out.2.1.cell; have l1 := HW1.out.2.1.lt
  go_wp2_with fail
  refine (HT1.out.loadA (HLA.out W1)).mono ?_
  rintro e w2 ⟨v, rfl, hA, hT2, hk2, _⟩; have HT2 := Lib.hid (show TwoP w0 w2 pa A1 (n + 1) pb B m ([w.heap.size, w.heap.size + 1] ++ K) from hT2.drop (fun b hb => List.mem_append_right _ hb)); have HK2 := Lib.hid (hk2.blk HW1.out.2.1 (by simp) |> And.intro (hk2.blk HW1.out.2.2 (by simp)) |> And.intro (HK1.out.trans (hk2.sub (fun b hb => List.mem_append_right _ hb))))
  obtain ⟨⟨tp, ca, sp, cb, rfl, _⟩, _⟩ := hA; clear hT2 hk2 c1 l1 HT1 HK1 HW1 HLA; obtain ⟨b1, hb1⟩ : ∃ b1, oa.isSome = b1 := ⟨_, rfl⟩
  rw [hb1]; clear hb1
  go_upto_region 2 with fail
  refine code_gen (fun W => Hid (TwoP w0 W pa A1 (n + 1) pb B m ([w.heap.size, w.heap.size + 1] ++ K) ∧ Kep K w W ∧ Blk W (w.heap.size + 1) 25 #[.pointer (some ⟨pb, 0, none⟩)] ∧ Blk W w.heap.size 25 #[.pointer (some ⟨pa, 0, none⟩)]))
    (Lib.hid ⟨HT2.out.off ((Off.refl _ _).alloc _), HK2.out.1.trans ((HT2.out.kep ((Off.refl _ _).alloc _)).sub (fun b hb => List.mem_append_right _ hb)), HK2.out.2.1.alloc _, HK2.out.2.2.alloc _⟩) ?_
  rintro W3 HW3; obtain ⟨g5, hg5⟩ : ∃ g5, w2.heap.size = g5 := ⟨_, rfl⟩
  rw [hg5]; clear hg5 HT2 HK2; have c1 := HW3.out.2.2.1.cell; have l1 := HW3.out.2.2.1.lt
  go_wp2_with fail
  refine (HW3.out.1.loadB (HLB.out W3)).mono ?_
  rintro e w4 ⟨v, rfl, hA, hT2, hk2, _⟩; have HT4 := Lib.hid (show TwoP w0 w4 pa A1 (n + 1) pb B1 (m + 1) ([w.heap.size, w.heap.size + 1] ++ K) from hT2.drop (fun b hb => List.mem_append_right _ hb)); have HK4 := Lib.hid (hk2.blk HW3.out.2.2.2 (by simp) |> And.intro (hk2.blk HW3.out.2.2.1 (by simp)) |> And.intro (HW3.out.2.1.trans (hk2.sub (fun b hb => List.mem_append_right _ hb))))
  obtain ⟨⟨tp2, ca2, sp2, cb2, rfl, _⟩, _⟩ := hA; clear hT2 hk2 c1 l1 HW3 HLB; have e0 : (none : Option Arc).isSome = false := rfl
  rw [e0]; clear e0
  go_upto_region 5 with fail
  refine code_gen (fun W => TwoP w0 W pa A1 (n + 1) pb B1 (m + 1) ([w.heap.size, w.heap.size + 1] ++ K) ∧ Kep K w W ∧ Blk W (w.heap.size + 1) 25 #[.pointer (some ⟨pb, 0, none⟩)] ∧ Blk W w.heap.size 25 #[.pointer (some ⟨pa, 0, none⟩)])
    ⟨HT4.out.off ((Off.refl _ _).alloc _), HK4.out.1.trans ((HT4.out.kep ((Off.refl _ _).alloc _)).sub (fun b hb => List.mem_append_right _ hb)), HK4.out.2.1.alloc _, HK4.out.2.2.alloc _⟩ ?_
  rintro Wx ⟨kT, kK, k2, k1⟩; obtain ⟨g8, hg8⟩ : ∃ g8, w4.heap.size = g8 := ⟨_, rfl⟩
  rw [hg8]; clear hg8 HT4 HK4; obtain ⟨Wb, hWb⟩ : ∃ Wb, Wx.alloc (.cells #[.func (.func 100) #[] #[.pointer (some ⟨w.heap.size, 0, none⟩)], .func (.func 102) #[] #[.pointer (some ⟨w.heap.size + 1, 0, none⟩)], .func (.func 38) #[.pointer (some ⟨pa, 0, none⟩)] #[], .func (.func 38) #[.pointer (some ⟨pb, 0, none⟩)] #[]] 85) = Wb := ⟨_, rfl⟩
  have hbs : Blk Wb Wx.heap.size 85 #[.func (.func 100) #[] #[.pointer (some ⟨w.heap.size, 0, none⟩)], .func (.func 102) #[] #[.pointer (some ⟨w.heap.size + 1, 0, none⟩)], .func (.func 38) #[.pointer (some ⟨pa, 0, none⟩)] #[], .func (.func 38) #[.pointer (some ⟨pb, 0, none⟩)] #[]] := by rw [← hWb]; exact Blk.new Wx _ _
  have hob : Off [] Wx Wb := by rw [← hWb]; exact (Off.refl _ _).alloc _
  have k1b := k1.off hob (by simp); have k2b := k2.off hob (by simp); obtain ⟨K', hK'⟩ : ∃ K', [Wx.heap.size] ++ ([w.heap.size, w.heap.size + 1] ++ K) = K' := ⟨_, rfl⟩
  have m1 : w.heap.size ∈ K' := by rw [← hK']; simp
  have m2 : w.heap.size + 1 ∈ K' := by rw [← hK']; simp
  have m5 : Wx.heap.size ∈ K' := by rw [← hK']; simp
  have mK : ∀ b ∈ K, b ∈ K' := fun b hb => by rw [← hK']; exact List.mem_append_right _ (List.mem_append_right _ hb)
  have hT0 : TwoP w0 Wb pa A1 (n + 1) pb B1 (m + 1) K' := by
    rw [← hK']; refine kT.more hob (fun b hb => ?_); have a5 := hbs.lt; simp only [List.mem_cons, List.not_mem_nil, or_false] at hb; omega
  have hk0 : Kep K w Wb := kK.trans ((kT.kep hob).sub (fun b hb => List.mem_append_right _ hb))
  have HU := Lib.hid (cuntil_any Wx.heap.size 4 4 [(100, #[], #[.pointer (some ⟨w.heap.size, 0, none⟩)]), (102, #[], #[.pointer (some ⟨w.heap.size + 1, 0, none⟩)]), (38, #[.pointer (some ⟨pa, 0, none⟩)], #[]), (38, #[.pointer (some ⟨pb, 0, none⟩)], #[])]
    (fun i W => TwoP w0 W pa (rcA A1 i) (rcN (n + 1) i) pb (rcB B1 i) (rcM (m + 1) i) K' ∧ Kep K' Wb W) (fun v W => v = 0 ∧ TwoP w0 W pa (A1.clear nxtN).2.flush.2 (n + 7) pb (B1.clear nxtN).2.flush.2 (m + 7) K ∧ Kep K w W) Wb rfl (by decide) ⟨hT0, Kep.refl⟩
    (fun i W hP => by
      have hB := hP.2.blk hbs m5; refine ⟨hB.lt, fun j f hj => ?_⟩; rw [hB.cell]
      match j, hj with
      | 0, hj => cases hj; rfl
      | 1, hj => cases hj; rfl
      | 2, hj => cases hj; rfl
      | 3, hj => cases hj; rfl
      | j + 4, hj => simp at hj)
    (fun i f W hf hP => by
      match i, hf, hP with
      | 0, hf, hP =>
        cases hf
        have hT : TwoP w0 W pa A1 (n + 1) pb B1 (m + 1) K' := hP.1
        refine (hT.callA (R := fun e _ => e = .returned (.int .i64 (A1.clear nxtN).1)) (fun G hG => crecover1_any pa (n + 1) _ G A1 W hG (by omega) (hP.2.blk k1b m1))).mono ?_
        rintro e w' ⟨rfl, h2, h3⟩; exact ⟨_, rfl, fun _ => ⟨h2, hP.2.trans h3⟩, fun hv => absurd HZ.out.1 hv⟩
      | 1, hf, hP =>
        cases hf
        have hT : TwoP w0 W pa (A1.clear nxtN).2 (n + 5) pb B1 (m + 1) K' := hP.1
        refine (hT.callB (R := fun e _ => e = .returned (.int .i64 (B1.clear nxtN).1)) (fun G hG => crecover2_any pb (m + 1) _ G B1 W hG (by omega) (hP.2.blk k2b m2))).mono ?_
        rintro e w' ⟨rfl, h2, h3⟩; exact ⟨_, rfl, fun _ => ⟨h2, hP.2.trans h3⟩, fun hv => absurd HZ.out.2.1 hv⟩
      | 2, hf, hP =>
        cases hf
        have hT : TwoP w0 W pa (A1.clear nxtN).2 (n + 5) pb (B1.clear nxtN).2 (m + 5) K' := hP.1
        refine (hT.callA (R := fun e _ => e = .returned (.int .i64 (A1.clear nxtN).2.flush.1)) (fun G hG => flush_call pa (n + 5) G _ W hG (by omega))).mono ?_
        rintro e w' ⟨rfl, h2, h3⟩; exact ⟨_, rfl, fun _ => ⟨h2, hP.2.trans h3⟩, fun hv => absurd HZ.out.2.2.1 hv⟩
      | 3, hf, hP =>
        cases hf
        have hT : TwoP w0 W pa (A1.clear nxtN).2.flush.2 (n + 7) pb (B1.clear nxtN).2 (m + 5) K' := hP.1
        refine (hT.callB (R := fun e _ => e = .returned (.int .i64 (B1.clear nxtN).2.flush.1)) (fun G hG => flush_call pb (m + 5) G _ W hG (by omega))).mono ?_
        rintro e w' ⟨rfl, h2, h3⟩; exact ⟨_, rfl, fun _ => ⟨h2, hP.2.trans h3⟩, fun hv => absurd HZ.out.2.2.2 hv⟩
      | i + 4, hf, hP => simp at hf)
    (fun W hP => ⟨rfl, TwoP.drop hP.1 mK, hk0.trans (hP.2.sub mK)⟩)
    (fun f hf => by
      simp only [List.mem_cons, List.not_mem_nil, or_false] at hf
      rcases hf with rfl | rfl | rfl | rfl
      · exact ENR1
      · exact ENR2
      · exact ENF
      exact ENF))
  have c1 := k1.cell; have l1 := k1.lt; have c2 := k2.cell; have l2 := k2.lt; clear hbs hob k1b k2b k1 k2 kT kK m1 m2 m5 mK hK' hT0 hk0 H HZ
  cases b1
  · go_wp2_with fail
    refine HU.out.mono ?_
    rintro e w6 ⟨v, rfl, rfl, hT⟩; have HT := Lib.hid hT; clear hT HU
    go_wp2_with fail
    go_ret
    exact ⟨rfl, HT.out⟩
  go_wp2_with fail
  refine HU.out.mono ?_
  rintro e w6 ⟨v, rfl, rfl, hT⟩; have HT := Lib.hid hT; clear hT HU
  go_wp2_with fail
  go_ret
  exact ⟨rfl, HT.out⟩
end
section
open Go.RowKit Go.Op Go.Maps
theorem TwoP.own {w0 w w' : World} {pa n pb m : Nat} {A B : PDisk} {K k : List Nat} (h : TwoP w0 w pa A n pb B m K) (ho : Off k w w') (hk : ∀ b ∈ k, b ∈ K ∧ w0.heap.size ≤ b) : TwoP w0 w' pa A n pb B m K := by
  obtain ⟨Ga, Gb, h⟩ := h; have hs : Off [] w0 w' := h.since.trans ho (fun x hx hm => by have := (hk x hm).2; omega)
  have fa : ∀ x ∈ pa :: Ga.parts, x ∉ k := fun x hx hm => (h.far x (hk x hm).1).2.1 hx
  have fb : ∀ x ∈ pb :: Gb.parts, x ∉ k := fun x hx hm => (h.far x (hk x hm).1).2.2 hx
  exact ⟨Ga, Gb, ⟨h.a.m.off ho (fa _ (List.mem_cons_self ..)) (fun b hb => fa _ (List.mem_cons_of_mem _ hb)), h.a.sb, h.a.ok, fun W hW => h.tabs.off (hs.trans hW (fun x hx hm => by have := h.la x hm; omega)), h.a.quiet⟩,
    ⟨h.b.m.off ho (fb _ (List.mem_cons_self ..)) (fun b hb => fb _ (List.mem_cons_of_mem _ hb)), h.b.sb, h.b.ok, fun W hW => h.tabs.off (hs.trans hW (fun x hx hm => by have := h.lb x hm; omega)), h.b.quiet⟩,
    h.ab, hs, h.la, h.lb, h.tabs, fun x hx => ⟨Nat.lt_of_lt_of_le (h.far x hx).1 ho.size, (h.far x hx).2⟩⟩
theorem Kep.own {k K : List Nat} {w w' : World} (ho : Off k w w') (hK : ∀ b ∈ K, b < w.heap.size ∧ b ∉ k) : Kep K w w' := ⟨fun b hb => ho.block b (hK b hb).1 (hK b hb).2, ho.size⟩
theorem TwoP.lt {w0 w : World} {pa n pb m : Nat} {A B : PDisk} {K : List Nat} (h : TwoP w0 w pa A n pb B m K) : ∀ b ∈ K, b < w.heap.size := fun b hb => by
  obtain ⟨_, _, h⟩ := h; exact (h.far b hb).1
theorem TellA.len {o : Option ByteArray} {oa : Option Arc} (h : TellA o oa) : (oa.getD zA).tree.length ≤ 1000 := by
  rcases h with ⟨_, rfl⟩ | ⟨s, _, ⟨rfl, _⟩ | ⟨a, rfl, h, _⟩⟩
  · decide
  · decide
  exact h.len
theorem ag_end {w0 w W : World} {pa n pb m : Nat} {A B : PDisk} {K : List Nat} {z1 z2 z3 z4 y1 y2 y3 y4 : Value} (h0 : ∀ b ∈ K, b < w.heap.size) (hb : w0.heap.size ≤ w.heap.size) (h : TwoP w0 W pa A n pb B m ([w.heap.size, w.heap.size + 1] ++ K)) (hk : Kep K w W)
    (h6 : Blk W w.heap.size 52 #[z1, z2, z3, z4]) (h7 : Blk W (w.heap.size + 1) 52 #[y1, y2, y3, y4]) (a b c d a' b' c' d' : Value) :
    TwoP w0 (putA (putA W w.heap.size a b c d) (w.heap.size + 1) a' b' c' d') pa A n pb B m K ∧ Kep K w (putA (putA W w.heap.size a b c d) (w.heap.size + 1) a' b' c' d') ∧ Blk (putA (putA W w.heap.size a b c d) (w.heap.size + 1) a' b' c' d') w.heap.size 52 #[a, b, c, d] ∧ Blk (putA (putA W w.heap.size a b c d) (w.heap.size + 1) a' b' c' d') (w.heap.size + 1) 52 #[a', b', c', d']
      ∧ Off [w.heap.size, w.heap.size + 1] W (putA (putA W w.heap.size a b c d) (w.heap.size + 1) a' b' c' d') := by
  have ho : Off [w.heap.size, w.heap.size + 1] W (putA (putA W w.heap.size a b c d) (w.heap.size + 1) a' b' c' d') :=
    ((putA_off W w.heap.size a b c d).mono (fun _ _ h => by simp at h ⊢; omega)).trans ((putA_off (putA W w.heap.size a b c d) (w.heap.size + 1) a' b' c' d').mono (fun _ _ h => by simp at h ⊢; omega)) (fun _ _ h => h)
  have hT := (h.own ho (fun b hb' => ⟨List.mem_append_left _ hb', by simp at hb'; omega⟩)); refine ⟨hT.drop (fun b hb => List.mem_append_right _ hb), hk.trans (Kep.own ho (fun b hb' => ⟨h.lt b (List.mem_append_right _ hb'), fun hm => by have := h0 b hb'; simp at hm; omega⟩)), ?_, putA_blk ((h7.off (putA_off W w.heap.size a b c d) (by simp))) a' b' c' d', ho⟩
  exact (putA_blk h6 a b c d).off (putA_off _ _ _ _ _ _) (by simp)
def agreeV (x y : Option Arc) (pair : ByteArray) : Bool := x.isSome && (y.isSome && (matchV (x.getD zA) (y.getD zA) && decide ((x.getD zA).pair = pair)))
def orA : Bool → Arc → Arc | true, a => a | false, _ => zA
set_option maxRecDepth 100000 in
set_option maxHeartbeats 16000000 in
theorem agreed_any (w0 : World) (pa n pb m : Nat) (A B : PDisk) (K : List Nat) (pair : ByteArray) (w : World) (h : TwoP w0 w pa A n pb B m K) (hn : n ≤ 90000) (hm : m ≤ 90000)
    (o1 o2 : Option ByteArray) (x y : Option Arc) (hl1 : (A.load arcN).1 = (o1.getD ⟨#[]⟩, o1.isSome, 0)) (hT1 : TellA o1 x) (hl2 : (B.load arcN).1 = (o2.getD ⟨#[]⟩, o2.isSome, 0)) (hT2 : TellA o2 y) :
    Calls Tryz.prog 44 #[.pointer (some ⟨pa, 0, none⟩), .pointer (some ⟨pb, 0, none⟩), .string pair] w fun e w' =>
      ∃ v1 v2, e = .returned (.tuple #[v1, v2, .bool (agreeV x y pair), .int .i64 0]) ∧ ArcAt w' v1 (orA (agreeV x y pair) (x.getD zA)) ∧ ArcAt w' v2 (orA (agreeV x y pair) (y.getD zA)) ∧ TwoP w0 w' pa (A.load arcN).2 (n + 1) pb (B.load arcN).2 (m + 1) K ∧ Kep K w w' := by
  have HLA := Lib.hid (fun (W : World) (G : Geo) (hG : DS W pa G A n) => cLoad_call pa n G A o1 x W hG (by omega) hl1 hT1); have HLB := Lib.hid (fun (W : World) (G : Geo) (hG : DS W pb G B m) => cLoad_call pb m G B o2 y W hG (by omega) hl2 hT2); have HLN := Lib.hid (And.intro hT1.len hT2.len); obtain ⟨A1, hA1⟩ : ∃ A1, (A.load arcN).2 = A1 := ⟨_, rfl⟩
  obtain ⟨B1, hB1⟩ : ∃ B1, (B.load arcN).2 = B1 := ⟨_, rfl⟩
  rw [hA1] at HLA ⊢; rw [hB1] at HLB ⊢; have H := Lib.hid h; clear h hl1 hl2 hT1 hT2 hA1 hB1
  go_enter Tryz.func44, Tryz.ntmps44
  go_upto_region 1 with fail
  refine code_gen (fun W => Hid (Off [] w W ∧ Blk W w.heap.size 52 #[.string ⟨#[]⟩, .int .i64 0, .slice none 0 0, .slice none 0 0] ∧ Blk W (w.heap.size + 1) 52 #[.string ⟨#[]⟩, .int .i64 0, .slice none 0 0, .slice none 0 0])) (Lib.hid ⟨((Off.refl _ _).alloc _).alloc _, (Blk.new w _ _).alloc _, Blk.new1 w _ _ _⟩) ?_
  rintro W1 HW1; have HT1 := Lib.hid (show TwoP w0 W1 pa A n pb B m ([w.heap.size, w.heap.size + 1] ++ K) from H.out.more HW1.out.1 (fun b hb => by
    have a1 := HW1.out.2.1.lt; have a2 := HW1.out.2.2.lt; simp only [List.mem_cons, List.not_mem_nil, or_false] at hb; omega))
  have HK1 := Lib.hid (H.out.kep HW1.out.1)
  go_wp2_with fail
  refine (HT1.out.loadA (HLA.out W1)).mono ?_
  rintro e w2 ⟨v, rfl, hA, hT2, hk2, hfr⟩; have HT2 := Lib.hid hT2; have HB2 := Lib.hid (And.intro (hk2.blk HW1.out.2.1 (by simp)) (And.intro (hk2.blk HW1.out.2.2 (by simp)) (HK1.out.trans (hk2.sub (fun b hb => List.mem_append_right _ hb))))); obtain ⟨⟨tp, ca, sp, cb, rfl, _⟩, _⟩ := id hA; have HA2 := Lib.hid hA
  have HF1 := Lib.hid (show ∀ b ∈ arcL (.agg #[.string (x.getD zA).pair, .int .i64 (x.getD zA).serial, .slice tp (x.getD zA).tree.length ca, .slice sp (x.getD zA).stamps.length cb]) (x.getD zA), w.heap.size + 1 < b from fun b hb => by have := hfr b hb; have := HW1.out.2.2.lt; omega); clear hT2 hk2 HT1 HK1 HW1 HLA hA hfr; obtain ⟨b1, hb1⟩ : ∃ b1, x.isSome = b1 := ⟨_, rfl⟩
  rw [hb1]; have HB1 := Lib.hid hb1; clear hb1
  go_upto_region 2 with fail
  refine code_gen (fun W => Hid (TwoP w0 W pa A1 (n + 1) pb B m ([w2.heap.size] ++ (arcL (.agg #[.string (x.getD zA).pair, .int .i64 (x.getD zA).serial, .slice tp (x.getD zA).tree.length ca, .slice sp (x.getD zA).stamps.length cb]) (x.getD zA) ++ ([w.heap.size, w.heap.size + 1] ++ K))) ∧ Kep K w W ∧ Blk W w.heap.size 52 #[.string ⟨#[]⟩, .int .i64 0, .slice none 0 0, .slice none 0 0] ∧ Blk W (w.heap.size + 1) 52 #[.string ⟨#[]⟩, .int .i64 0, .slice none 0 0, .slice none 0 0]
      ∧ Blk W w2.heap.size 52 #[.string (x.getD zA).pair, .int .i64 (x.getD zA).serial, .slice tp (x.getD zA).tree.length ca, .slice sp (x.getD zA).stamps.length cb] ∧ ArcAt W (.agg #[.string (x.getD zA).pair, .int .i64 (x.getD zA).serial, .slice tp (x.getD zA).tree.length ca, .slice sp (x.getD zA).stamps.length cb]) (x.getD zA)))
    (Lib.hid ⟨HT2.out.more ((Off.refl _ _).alloc _) (fun b hb => by simp at hb; subst hb; simp), HB2.out.2.2.trans ((HT2.out.kep ((Off.refl _ _).alloc _)).sub (fun b hb => List.mem_append_right _ (List.mem_append_right _ hb))), HB2.out.1.alloc _, HB2.out.2.1.alloc _, Blk.new w2 _ _, HA2.out.off ((Off.refl _ _).alloc _)⟩) ?_
  rintro W3 HW3; have HSZ := Lib.hid (show w.heap.size < w2.heap.size ∧ w.heap.size + 1 < w2.heap.size from ⟨HB2.out.1.lt, HB2.out.2.1.lt⟩); obtain ⟨g10, hg10⟩ : ∃ g10, w2.heap.size = g10 := ⟨_, rfl⟩
  rw [hg10] at HW3 HSZ; rw [hg10]; clear hg10 HT2 HB2 HA2
  go_wp2_with fail
  refine (HW3.out.1.loadB (HLB.out W3)).mono ?_
  rintro e w4 ⟨v, rfl, hA, hT2, hk2, hfr⟩; have hA1 := HW3.out.2.2.2.2.2.kept hk2 (fun b hb => List.mem_append_right _ (List.mem_append_left _ hb)); have hB6 := hk2.blk HW3.out.2.2.1 (by simp); have hB7 := hk2.blk HW3.out.2.2.2.1 (by simp); have hB10 := hk2.blk HW3.out.2.2.2.2.1 (by simp)
  have hKK := HW3.out.2.1.trans (hk2.sub (fun b hb => List.mem_append_right _ (List.mem_append_right _ (List.mem_append_right _ hb)))); obtain ⟨⟨tp2, ca2, sp2, cb2, rfl, _⟩, _⟩ := id hA; have HT4 := Lib.hid (show TwoP w0 w4 pa A1 (n + 1) pb B1 (m + 1) ([w.heap.size, w.heap.size + 1] ++ K) from hT2.drop (fun b hb => List.mem_append_right _ (List.mem_append_right _ (List.mem_append_right _ hb))))
  have HX4 := Lib.hid (And.intro hA1 (And.intro hA (And.intro hB6 (And.intro hB7 (And.intro hB10 hKK))))); have HF2 := Lib.hid (show ∀ b ∈ arcL (.agg #[.string (y.getD zA).pair, .int .i64 (y.getD zA).serial, .slice tp2 (y.getD zA).tree.length ca2, .slice sp2 (y.getD zA).stamps.length cb2]) (y.getD zA), w.heap.size + 1 < b from fun b hb => by have := hfr b hb; have := HW3.out.2.2.2.1.lt; omega)
  clear hA1 hA hB6 hB7 hB10 hKK hT2 hk2 HW3 HLB hfr; obtain ⟨b2, hb2⟩ : ∃ b2, y.isSome = b2 := ⟨_, rfl⟩
  rw [hb2]; have HB2 := Lib.hid hb2; clear hb2
  go_upto_region 5 with fail
  refine code_gen (fun W => Hid (TwoP w0 W pa A1 (n + 1) pb B1 (m + 1) ([w.heap.size, w.heap.size + 1] ++ K) ∧ Kep K w W ∧ Blk W w.heap.size 52 #[.string ⟨#[]⟩, .int .i64 0, .slice none 0 0, .slice none 0 0] ∧ Blk W (w.heap.size + 1) 52 #[.string ⟨#[]⟩, .int .i64 0, .slice none 0 0, .slice none 0 0]
      ∧ Blk W g10 52 #[.string (x.getD zA).pair, .int .i64 (x.getD zA).serial, .slice tp (x.getD zA).tree.length ca, .slice sp (x.getD zA).stamps.length cb] ∧ ArcAt W (.agg #[.string (x.getD zA).pair, .int .i64 (x.getD zA).serial, .slice tp (x.getD zA).tree.length ca, .slice sp (x.getD zA).stamps.length cb]) (x.getD zA)
      ∧ Blk W w4.heap.size 52 #[.string (y.getD zA).pair, .int .i64 (y.getD zA).serial, .slice tp2 (y.getD zA).tree.length ca2, .slice sp2 (y.getD zA).stamps.length cb2] ∧ ArcAt W (.agg #[.string (y.getD zA).pair, .int .i64 (y.getD zA).serial, .slice tp2 (y.getD zA).tree.length ca2, .slice sp2 (y.getD zA).stamps.length cb2]) (y.getD zA)))
    (Lib.hid ⟨HT4.out.off ((Off.refl _ _).alloc _), HX4.out.2.2.2.2.2.trans ((HT4.out.kep ((Off.refl _ _).alloc _)).sub (fun b hb => List.mem_append_right _ hb)), HX4.out.2.2.1.alloc _, HX4.out.2.2.2.1.alloc _, HX4.out.2.2.2.2.1.alloc _, HX4.out.1.off ((Off.refl _ _).alloc _), Blk.new w4 _ _, HX4.out.2.1.off ((Off.refl _ _).alloc _)⟩) ?_
  rintro W5 HW5; have HSY := Lib.hid (show w.heap.size < w4.heap.size ∧ w.heap.size + 1 < w4.heap.size from ⟨HX4.out.2.2.1.lt, HX4.out.2.2.2.1.lt⟩); obtain ⟨g13, hg13⟩ : ∃ g13, w4.heap.size = g13 := ⟨_, rfl⟩
  rw [hg13] at HW5 HSY; rw [hg13]; clear hg13 HT4 HX4
  have HR := Lib.hid (show ∀ (W : World) (a b c d a' b' c' d' : Value), Blk W w.heap.size 52 #[a, b, c, d] → Blk W (w.heap.size + 1) 52 #[a', b', c', d'] → ∀ (tm : Array Value) (z : Bool), tm.getD 6 undef = .pointer (some ⟨w.heap.size, 0, none⟩) → tm.getD 7 undef = .pointer (some ⟨w.heap.size + 1, 0, none⟩) → tm.getD 8 undef = .bool z → tm.getD 9 undef = .int .i64 0 →
      (results Tryz.f44 tm).run Tryz.prog W = .ok (.tuple #[.agg #[a, b, c, d], .agg #[a', b', c', d'], .bool z, .int .i64 0]) W from fun W a b c d a' b' c' d' h1 h2 tm z t6 t7 t8 t9 => by
    have hc1 := h1.cell; have hc2 := h2.cell; have hl1 := h1.lt; have hl2 := h2.lt; have hres : Tryz.f44.results = #[.cell 6 52, .cell 7 52, .tmp 8, .tmp 9] := rfl
    have t6' : tm[6]?.getD undef = .pointer (some ⟨w.heap.size, 0, none⟩) := by simpa using t6
    have t7' : tm[7]?.getD undef = .pointer (some ⟨w.heap.size + 1, 0, none⟩) := by simpa using t7
    have t8' : tm[8]?.getD undef = .bool z := by simpa using t8
    have t9' : tm[9]?.getD undef = .int .i64 0 := by simpa using t9
    simp only [results, hres]
    go_simp)
  have c6 := HW5.out.2.2.1.cell; have f6 := HW5.out.2.2.1.frozen; have l6 := HW5.out.2.2.1.lt; have c7 := HW5.out.2.2.2.1.cell; have f7 := HW5.out.2.2.2.1.frozen; have l7 := HW5.out.2.2.2.1.lt
  cases b1
  · have hv : agreeV x y pair = false := by unfold agreeV; rw [HB1.out]; rfl
    have HV := Lib.hid hv; clear hv
    go_wp2_with fail
    have hv := HV.out; obtain ⟨f1, f2, f3, f4, f5⟩ := ag_end (fun b hb => H.out.lt b hb) H.out.since.size HW5.out.1 HW5.out.2.1 HW5.out.2.2.1 HW5.out.2.2.2.1 (.string ⟨#[]⟩) (.int .i64 0) (.slice none 0 0) (.slice none 0 0) (.string ⟨#[]⟩) (.int .i64 0) (.slice none 0 0) (.slice none 0 0)
    refine bodyPost_ret (v := .tuple #[.agg #[.string ⟨#[]⟩, .int .i64 0, .slice none 0 0, .slice none 0 0], .agg #[.string ⟨#[]⟩, .int .i64 0, .slice none 0 0, .slice none 0 0], .bool false, .int .i64 0]) (HR.out _ _ _ _ _ _ _ _ _ f3 f4 _ _ rfl rfl rfl rfl) rfl ?_
    refine ⟨_, _, by rw [hv], ?_, ?_, f1, f2⟩
    · rw [hv]; exact zA_at _
    rw [hv]; exact zA_at _
  cases b2
  · have hv : agreeV x y pair = false := by unfold agreeV; rw [HB1.out, HB2.out]; rfl
    have HV := Lib.hid hv; clear hv
    go_wp2_with fail
    have hv := HV.out; obtain ⟨f1, f2, f3, f4, f5⟩ := ag_end (fun b hb => H.out.lt b hb) H.out.since.size HW5.out.1 HW5.out.2.1 HW5.out.2.2.1 HW5.out.2.2.2.1 (.string ⟨#[]⟩) (.int .i64 0) (.slice none 0 0) (.slice none 0 0) (.string ⟨#[]⟩) (.int .i64 0) (.slice none 0 0) (.slice none 0 0)
    refine bodyPost_ret (v := .tuple #[.agg #[.string ⟨#[]⟩, .int .i64 0, .slice none 0 0, .slice none 0 0], .agg #[.string ⟨#[]⟩, .int .i64 0, .slice none 0 0, .slice none 0 0], .bool false, .int .i64 0]) (HR.out _ _ _ _ _ _ _ _ _ f3 f4 _ _ rfl rfl rfl rfl) rfl ?_
    refine ⟨_, _, by rw [hv], ?_, ?_, f1, f2⟩
    · rw [hv]; exact zA_at _
    rw [hv]; exact zA_at _
  obtain ⟨mt, hmt⟩ : ∃ mt, matchV (x.getD zA) (y.getD zA) = mt := ⟨_, rfl⟩
  have HMT := Lib.hid (amatch_any _ _ (x.getD zA) (y.getD zA) W5 HW5.out.2.2.2.2.2.1 HW5.out.2.2.2.2.2.2.2 (by have := HLN.out; omega) (by have := HLN.out; omega) HW5.out.1.tabs mt hmt); have c10 := HW5.out.2.2.2.2.1.cell; have l10 := HW5.out.2.2.2.2.1.lt; have c13 := HW5.out.2.2.2.2.2.2.1.cell; have l13 := HW5.out.2.2.2.2.2.2.1.lt; have HM := Lib.hid hmt; clear hmt
  cases mt
  · have hv : agreeV x y pair = false := by unfold agreeV; rw [HB1.out, HB2.out, HM.out]; rfl
    have HV := Lib.hid hv; clear hv
    go_wp2_with fail
    refine HMT.out.mono ?_
    rintro e w6 ⟨rfl, ho6⟩; have hT6 := HW5.out.1.off ho6; have hK6 := HW5.out.2.1.trans ((HW5.out.1.kep ho6).sub (fun b hb => List.mem_append_right _ hb)); have hB6 := HW5.out.2.2.1.off ho6 (by simp); have hB7 := HW5.out.2.2.2.1.off ho6 (by simp); have hB10 := HW5.out.2.2.2.2.1.off ho6 (by simp); have hB13 := HW5.out.2.2.2.2.2.2.1.off ho6 (by simp)
    have HW6 := Lib.hid (And.intro hT6 (And.intro hK6 (And.intro hB6 (And.intro hB7 (And.intro hB10 hB13))))); have hA1 := HW5.out.2.2.2.2.2.1.off ho6; have hA2 := HW5.out.2.2.2.2.2.2.2.off ho6; have HA6 := Lib.hid (And.intro hA1 hA2); clear c6 f6 l6 c7 f7 l7 c10 l10 c13 l13 ho6 hT6 hK6 hB6 hB7 hB10 hB13 HW5 hA1 hA2 HMT; have c6 := HW6.out.2.2.1.cell; have f6 := HW6.out.2.2.1.frozen
    have l6 := HW6.out.2.2.1.lt; have c7 := HW6.out.2.2.2.1.cell; have f7 := HW6.out.2.2.2.1.frozen; have l7 := HW6.out.2.2.2.1.lt; have c10 := HW6.out.2.2.2.2.1.cell; have l10 := HW6.out.2.2.2.2.1.lt; have c13 := HW6.out.2.2.2.2.2.cell; have l13 := HW6.out.2.2.2.2.2.lt
    go_wp2_with fail
    have hv := HV.out; obtain ⟨f1, f2, f3, f4, f5⟩ := ag_end (fun b hb => H.out.lt b hb) H.out.since.size HW6.out.1 HW6.out.2.1 HW6.out.2.2.1 HW6.out.2.2.2.1 (.string ⟨#[]⟩) (.int .i64 0) (.slice none 0 0) (.slice none 0 0) (.string ⟨#[]⟩) (.int .i64 0) (.slice none 0 0) (.slice none 0 0)
    refine bodyPost_ret (v := .tuple #[.agg #[.string ⟨#[]⟩, .int .i64 0, .slice none 0 0, .slice none 0 0], .agg #[.string ⟨#[]⟩, .int .i64 0, .slice none 0 0, .slice none 0 0], .bool false, .int .i64 0]) (HR.out _ _ _ _ _ _ _ _ _ f3 f4 _ _ rfl rfl rfl rfl) rfl ?_
    refine ⟨_, _, by rw [hv], ?_, ?_, f1, f2⟩
    · rw [hv]; exact zA_at _
    rw [hv]; exact zA_at _
  by_cases hp : ¬ (x.getD zA).pair = pair
  · have hv : agreeV x y pair = false := by unfold agreeV; rw [HB1.out, HB2.out, HM.out, decide_eq_false hp]; rfl
    have HV := Lib.hid hv; have g1 : ((x.getD zA).pair.toList == pair.toList) = false := beq_eq_false_iff_ne.2 (fun h => hp (toList_iff.1 h))
    clear hv hp
    go_wp2_with fail
    refine HMT.out.mono ?_
    rintro e w6 ⟨rfl, ho6⟩; have hT6 := HW5.out.1.off ho6; have hK6 := HW5.out.2.1.trans ((HW5.out.1.kep ho6).sub (fun b hb => List.mem_append_right _ hb)); have hB6 := HW5.out.2.2.1.off ho6 (by simp); have hB7 := HW5.out.2.2.2.1.off ho6 (by simp); have hB10 := HW5.out.2.2.2.2.1.off ho6 (by simp); have hB13 := HW5.out.2.2.2.2.2.2.1.off ho6 (by simp)
    have HW6 := Lib.hid (And.intro hT6 (And.intro hK6 (And.intro hB6 (And.intro hB7 (And.intro hB10 hB13))))); have hA1 := HW5.out.2.2.2.2.2.1.off ho6; have hA2 := HW5.out.2.2.2.2.2.2.2.off ho6; have HA6 := Lib.hid (And.intro hA1 hA2); clear c6 f6 l6 c7 f7 l7 c10 l10 c13 l13 ho6 hT6 hK6 hB6 hB7 hB10 hB13 HW5 hA1 hA2 HMT; have c6 := HW6.out.2.2.1.cell; have f6 := HW6.out.2.2.1.frozen
    have l6 := HW6.out.2.2.1.lt; have c7 := HW6.out.2.2.2.1.cell; have f7 := HW6.out.2.2.2.1.frozen; have l7 := HW6.out.2.2.2.1.lt; have c10 := HW6.out.2.2.2.2.1.cell; have l10 := HW6.out.2.2.2.2.1.lt; have c13 := HW6.out.2.2.2.2.2.cell; have l13 := HW6.out.2.2.2.2.2.lt
    go_wp2_with fail
    have hv := HV.out; obtain ⟨f1, f2, f3, f4, f5⟩ := ag_end (fun b hb => H.out.lt b hb) H.out.since.size HW6.out.1 HW6.out.2.1 HW6.out.2.2.1 HW6.out.2.2.2.1 (.string ⟨#[]⟩) (.int .i64 0) (.slice none 0 0) (.slice none 0 0) (.string ⟨#[]⟩) (.int .i64 0) (.slice none 0 0) (.slice none 0 0)
    refine bodyPost_ret (v := .tuple #[.agg #[.string ⟨#[]⟩, .int .i64 0, .slice none 0 0, .slice none 0 0], .agg #[.string ⟨#[]⟩, .int .i64 0, .slice none 0 0, .slice none 0 0], .bool false, .int .i64 0]) (HR.out _ _ _ _ _ _ _ _ _ f3 f4 _ _ rfl rfl rfl rfl) rfl ?_
    refine ⟨_, _, by rw [hv], ?_, ?_, f1, f2⟩
    · rw [hv]; exact zA_at _
    rw [hv]; exact zA_at _
  have hp : (x.getD zA).pair = pair := Classical.not_not.1 hp
  have hv : agreeV x y pair = true := by unfold agreeV; rw [HB1.out, HB2.out, HM.out, decide_eq_true hp]; rfl
  have HV := Lib.hid hv; have g1 : ((x.getD zA).pair.toList == pair.toList) = true := by rw [hp]; exact beq_self_eq_true _
  clear hv hp
  go_wp2_with fail
  refine HMT.out.mono ?_
  rintro e w6 ⟨rfl, ho6⟩; have hT6 := HW5.out.1.off ho6; have hK6 := HW5.out.2.1.trans ((HW5.out.1.kep ho6).sub (fun b hb => List.mem_append_right _ hb)); have hB6 := HW5.out.2.2.1.off ho6 (by simp); have hB7 := HW5.out.2.2.2.1.off ho6 (by simp); have hB10 := HW5.out.2.2.2.2.1.off ho6 (by simp); have hB13 := HW5.out.2.2.2.2.2.2.1.off ho6 (by simp)
  have HW6 := Lib.hid (And.intro hT6 (And.intro hK6 (And.intro hB6 (And.intro hB7 (And.intro hB10 hB13))))); have hA1 := HW5.out.2.2.2.2.2.1.off ho6; have hA2 := HW5.out.2.2.2.2.2.2.2.off ho6; have HA6 := Lib.hid (And.intro hA1 hA2); clear c6 f6 l6 c7 f7 l7 c10 l10 c13 l13 ho6 hT6 hK6 hB6 hB7 hB10 hB13 HW5 hA1 hA2 HMT; have c6 := HW6.out.2.2.1.cell; have f6 := HW6.out.2.2.1.frozen
  have l6 := HW6.out.2.2.1.lt; have c7 := HW6.out.2.2.2.1.cell; have f7 := HW6.out.2.2.2.1.frozen; have l7 := HW6.out.2.2.2.1.lt; have c10 := HW6.out.2.2.2.2.1.cell; have l10 := HW6.out.2.2.2.2.1.lt; have c13 := HW6.out.2.2.2.2.2.cell; have l13 := HW6.out.2.2.2.2.2.lt
  go_upto_region 7 with fail
  obtain ⟨f1, f2, f3, f4, f5⟩ := ag_end (fun b hb => H.out.lt b hb) H.out.since.size HW6.out.1 HW6.out.2.1 HW6.out.2.2.1 HW6.out.2.2.2.1 (.string (x.getD zA).pair) (.int .i64 (x.getD zA).serial) (.slice tp (x.getD zA).tree.length ca) (.slice sp (x.getD zA).stamps.length cb) (.string (y.getD zA).pair) (.int .i64 (y.getD zA).serial) (.slice tp2 (y.getD zA).tree.length ca2) (.slice sp2 (y.getD zA).stamps.length cb2)
  have n1 : ¬ w.heap.size = g10 := by have := HSZ.out; omega
  have n2 : ¬ w.heap.size + 1 = g10 := by have := HSZ.out; omega
  have n3 : ¬ w.heap.size = g13 := by have := HSY.out; omega
  have n4 : ¬ w.heap.size + 1 = g13 := by have := HSY.out; omega
  have n5 : ¬ g10 = w.heap.size := by have := HSZ.out; omega
  have n6 : ¬ g10 = w.heap.size + 1 := by have := HSZ.out; omega
  have n7 : ¬ g13 = w.heap.size := by have := HSY.out; omega
  have n8 : ¬ g13 = w.heap.size + 1 := by have := HSY.out; omega
  go_region
  go_wp2_with fail
  have hdr := (Off.refl [] (putA (putA w6 w.heap.size (.string (x.getD zA).pair) (.int .i64 (x.getD zA).serial) (.slice tp (x.getD zA).tree.length ca) (.slice sp (x.getD zA).stamps.length cb)) (w.heap.size + 1) (.string (y.getD zA).pair) (.int .i64 (y.getD zA).serial) (.slice tp2 (y.getD zA).tree.length ca2) (.slice sp2 (y.getD zA).stamps.length cb2))).drew
  refine bodyPost_ret (v := .tuple #[.agg #[.string (x.getD zA).pair, .int .i64 (x.getD zA).serial, .slice tp (x.getD zA).tree.length ca, .slice sp (x.getD zA).stamps.length cb], .agg #[.string (y.getD zA).pair, .int .i64 (y.getD zA).serial, .slice tp2 (y.getD zA).tree.length ca2, .slice sp2 (y.getD zA).stamps.length cb2], .bool true, .int .i64 0]) (HR.out _ _ _ _ _ _ _ _ _ (f3.off hdr (by simp)) (f4.off hdr (by simp)) _ _ rfl rfl rfl rfl) rfl ?_
  refine ⟨_, _, by rw [HV.out], ?_, ?_, f1.off hdr, f2.trans (f1.kep hdr)⟩
  · rw [HV.out]
    exact (HA6.out.1.kept (k := arcL _ _) (Kep.own f5 (fun b hb => ⟨HA6.out.1.lt b hb, fun hm => by have := HF1.out b hb; simp at hm; omega⟩)) (fun b hb => hb)).off hdr
  rw [HV.out]; exact (HA6.out.2.kept (k := arcL _ _) (Kep.own f5 (fun b hb => ⟨HA6.out.2.lt b hb, fun hm => by have := HF2.out b hb; simp at hm; omega⟩)) (fun b hb => hb)).off hdr
end
section
open Go.RowKit Go.Op Go.Maps
set_option maxRecDepth 100000 in
set_option maxHeartbeats 4000000 in
theorem eindex_any (g c : Nat) (x e : Int) (w : World) (hB : Blk w g 26 #[.int .i64 x]) (v : Int) (hv : (if e = x then 0 else -1) = v) :
    Calls Tryz.prog 251 #[.slice (some ⟨g, 0, none⟩) 1 c, .int .i64 e] w fun r w' => r = .returned (.int .i64 v) ∧ Off [] w w' := by
  have HB := Lib.hid hB; have HV := Lib.hid hv; clear hB hv
  go_enter Tryz.func251, Tryz.ntmps251
  go_wp2_with fail
  go_loopw [8] (fun z wr => ∃ i : Nat, z = .int .i64 i ∧ i ≤ 1 ∧ Hid ((i = 1 → e ≠ x) ∧ Off [] w wr)) (fun z _ => 1 - (intOf z).toNat)
  case atStart => exact ⟨0, rfl, by omega, Lib.hid ⟨fun h => (by cases h), Off.refl _ _⟩⟩
  case round =>
    obtain ⟨i, rfl, hi, HO⟩ := hrel
    by_cases hlt : i < 1
    · have hc : wr.cell? ⟨g, i, none⟩ = some (.int .i64 x) := by
        obtain rfl : i = 0 := by omega
        exact (HB.out.off HO.out.2 (by simp)).cell 0
      have hl := (HB.out.off HO.out.2 (by simp)).lt; have hlI : (i : Int) < 1 := by omega
      by_cases he : e = x
      · have hq : (e == x) = true := by rw [he]; exact beq_self_eq_true _
        have HE := Lib.hid he; clear he
        go_wp2_with fail
        go_ret
        obtain rfl : i = 0 := by omega
        exact ⟨by rw [← HV.out, if_pos HE.out]; rfl, HO.out.2⟩
      have hq : (e == x) = false := beq_eq_false_iff_ne.2 he
      have HE := Lib.hid he; clear he
      go_wp2_with fail
      exact ⟨⟨i + 1, by congr 1, by omega, Lib.hid ⟨fun _ => HE.out, HO.out.2⟩⟩, by simp only [intOf]; omega⟩
    obtain rfl : i = 1 := by omega
    have HE := Lib.hid (HO.out.1 rfl)
    go_wp2_with fail
    go_ret
    exact ⟨by rw [← HV.out, if_neg HE.out]; rfl, HO.out.2⟩
set_option maxRecDepth 100000 in
theorem econtains_any (g c : Nat) (x e : Int) (w : World) (hB : Blk w g 26 #[.int .i64 x]) (b : Bool) (hb : decide (e = x) = b) :
    Calls Tryz.prog 195 #[.slice (some ⟨g, 0, none⟩) 1 c, .int .i64 e] w fun r w' => r = .returned (.bool b) ∧ Off [] w w' := by
  have HI := Lib.hid (fun v hv => eindex_any g c x e w hB v hv)
  cases b
  · have he : ¬ e = x := of_decide_eq_false hb
    have HJ := Lib.hid (HI.out (-1) (if_neg he)); clear HI he hb hB
    go_enter Tryz.func195, Tryz.ntmps195
    go_wp2_with fail
    refine HJ.out.mono ?_
    rintro r w1 ⟨rfl, ho⟩; have HO := Lib.hid ho; clear ho
    go_wp2_with fail
    go_ret
    exact ⟨rfl, HO.out⟩
  have he : e = x := of_decide_eq_true hb
  have HJ := Lib.hid (HI.out 0 (if_pos he)); clear HI he hb hB
  go_enter Tryz.func195, Tryz.ntmps195
  go_wp2_with fail
  refine HJ.out.mono ?_
  rintro r w1 ⟨rfl, ho⟩; have HO := Lib.hid ho; clear ho
  go_wp2_with fail
  go_ret
  exact ⟨rfl, HO.out⟩
set_option maxRecDepth 100000 in
theorem free_any (g c : Nat) (x e : Int) (w : World) (hB : Blk w g 26 #[.int .i64 x]) :
    Calls Tryz.prog 140 #[.int .i64 e, .slice (some ⟨g, 0, none⟩) 1 c] w fun r w' => r = .returned (.int .i64 (if e = x then 0 else e)) ∧ Off [] w w' := by
  by_cases he : e = x
  · have HJ := Lib.hid (econtains_any g c x e w hB true (decide_eq_true he))
    rw [if_pos he]; clear he hB
    go_enter Tryz.func140, Tryz.ntmps140
    go_wp2_with fail
    refine HJ.out.mono ?_
    rintro r w1 ⟨rfl, ho⟩; have HO := Lib.hid ho; clear ho
    go_wp2_with fail
    go_ret
    exact ⟨rfl, HO.out⟩
  have HJ := Lib.hid (econtains_any g c x e w hB false (decide_eq_false he)); rw [if_neg he]; clear he hB
  go_enter Tryz.func140, Tryz.ntmps140
  go_wp2_with fail
  refine HJ.out.mono ?_
  rintro r w1 ⟨rfl, ho⟩; have HO := Lib.hid ho; clear ho
  go_wp2_with fail
  go_ret
  exact ⟨rfl, HO.out⟩
end
section
open Go.RowKit Go.Op Go.Maps
def hostP : Nat → ByteArray
  | 0 => ⟨#[46, 104, 97, 119, 115, 101, 114]⟩
  | 1 => ⟨#[46, 104, 97, 119, 115, 101, 114, 47, 115, 116, 97, 103, 101]⟩
  | 2 => ⟨#[46, 104, 97, 119, 115, 101, 114, 47, 116, 114, 97, 115, 104]⟩
  | _ => ⟨#[46, 104, 97, 119, 115, 101, 114, 47, 111, 108, 100]⟩
theorem hostP_le : ∀ i, (hostP i).size ≤ 100
  | 0 => by decide
  | 1 => by decide
  | 2 => by decide
  | n + 3 => (by decide : (hostP 3).size ≤ 100)
theorem hostP_at : ∀ i, i < 4 → #[Value.string (hostP 0), .string (hostP 1), .string (hostP 2), .string (hostP 3)][i]? = some (.string (hostP i))
  | 0, _ => rfl
  | 1, _ => rfl
  | 2, _ => rfl
  | 3, _ => rfl
  | k + 4, h => absurd h (by omega)
def opD (D : PDisk) : Nat → PDisk | 0 => D | i + 1 => ((opD D i).mkdir (hostP i)).2
set_option maxRecDepth 100000 in
set_option maxHeartbeats 8000000 in
theorem open_ok (p n : Nat) (G : Geo) (D : PDisk) (w : World) (h : DS w p G D n) (hn : n ≤ 90000) (hz : ∀ i, i < 4 → ((opD D i).mkdir (hostP i)).1 = 0 ∨ ((opD D i).mkdir (hostP i)).1 = 72) :
    Calls Tryz.prog 87 #[.pointer (some ⟨p, 0, none⟩)] w fun e w' => e = .returned (.int .i64 (opD D 4).flush.1) ∧ DSTo w p G.parts w' (opD D 4).flush.2 (n + 10) := by
  have H := Lib.hid h; have HZ := Lib.hid hz; clear h hz
  go_enter Tryz.func87, Tryz.ntmps87
  have hb : Blk (w.alloc (.cells #[.string (hostP 0), .string (hostP 1), .string (hostP 2), .string (hostP 3)] 9)) w.heap.size 9 #[.string (hostP 0), .string (hostP 1), .string (hostP 2), .string (hostP 3)] := Blk.new w _ _
  have HB := Lib.hid hb; have HOW := Lib.hid ((Off.refl [] w).alloc (.cells #[.string (hostP 0), .string (hostP 1), .string (hostP 2), .string (hostP 3)] 9)); have HD := Lib.hid ((H.out.off HOW.out).refl); have HF := Lib.hid (show w.heap.size ∉ p :: G.parts from fun hm => by have := H.out.lt _ hm; omega); clear hb; unfold hostP at HB HD HOW
  go_upto_region 2 with fail
  generalize (w.alloc (.cells #[.string ⟨#[46, 104, 97, 119, 115, 101, 114]⟩, .string ⟨#[46, 104, 97, 119, 115, 101, 114, 47, 115, 116, 97, 103, 101]⟩, .string ⟨#[46, 104, 97, 119, 115, 101, 114, 47, 116, 114, 97, 115, 104]⟩, .string ⟨#[46, 104, 97, 119, 115, 101, 114, 47, 111, 108, 100]⟩] 9)) = W1 at HB HD HOW ⊢
  obtain ⟨gs, hgs⟩ : ∃ gs, w.heap.size = gs := ⟨_, rfl⟩
  rw [hgs] at HB HF; rw [hgs]; clear hgs; have HFF := Lib.hid (show gs ∉ p :: G.parts from HF.out)
  go_loopw [8] (fun z wr => ∃ i : Nat, z = .int .i64 i ∧ i ≤ 4 ∧ Hid (DSTo W1 p G.parts wr (opD D i) (n + 2 * i))) (fun z _ => 4 - (intOf z).toNat)
  case atStart => exact ⟨0, rfl, by omega, HD⟩
  case round =>
    obtain ⟨i, rfl, hi, HT⟩ := hrel
    by_cases hlt : i < 4
    · obtain ⟨s, hs⟩ : ∃ s, hostP i = s := ⟨_, rfl⟩
      have hss : s.size ≤ 100 := by
        rw [← hs]; exact hostP_le i
      have hBw := HT.out.keep HB.out HFF.out; have hc : wr.cell? ⟨gs, i, none⟩ = some (.string s) := by
        rw [hBw.cell, ← hs]; exact hostP_at i hlt
      have hl := hBw.lt; have hlI : (i : Int) < 4 := by omega
      have hz := HZ.out i hlt; have HE := Lib.hid (show opD D (i + 1) = ((opD D i).mkdir s).2 from by rw [← hs]; rfl); rw [hs] at hz; have HM := Lib.hid (fun G1 (h1 : DS wr p G1 (opD D i) (n + 2 * i)) => dmkdir_call p (n + 2 * i) G1 (opD D i) s wr h1 (by omega) (by omega)); obtain ⟨r, hr⟩ : ∃ r, (opD D i).mkdir s = r := ⟨_, rfl⟩
      rw [hr] at HE HM hz; obtain ⟨e0, E1⟩ := r; dsimp only at HE HM hz; have HZ0 := Lib.hid hz; clear hs hBw hz hr hss; obtain ⟨G1, h1, ho, hp⟩ := HT.out; have HO := Lib.hid (And.intro ho hp); have HMM := Lib.hid (HM.out G1 h1); clear HM h1 ho hp HT
      go_wp2_with fail
      refine HMM.out.mono ?_
      rintro e w2 ⟨rfl, hT2⟩; have HT2 := Lib.hid (DSTo.step HO.out.1 HO.out.2 hT2); clear hT2 HMM HO hc hl
      go_wp2_with fail
      refine (free_any w2.heap.size 1 72 e0 _ (Blk.new w2 _ _)).mono ?_
      rintro e w3 ⟨rfl, ho3⟩; have HT3 := Lib.hid ((HT2.out.off ((Off.refl _ _).alloc _)).off ho3); clear ho3 HT2; have e2 : (if e0 = 72 then (0 : Int) else e0) = 0 := by
        rcases HZ0.out with h | h
        · rw [h]; rfl
        rw [h]; rfl
      rw [e2]; clear e2
      go_wp2_with fail
      exact ⟨⟨i + 1, by congr 1, by omega, Lib.hid (by rw [HE.out]; exact HT3.out.le (by omega))⟩, by simp only [intOf]; omega⟩
    obtain rfl : i = 4 := by omega
    obtain ⟨G1, h1, ho, hp⟩ := HT.out; have HFL := Lib.hid (flush_call p (n + 2 * 4) G1 _ wr h1 (by omega)); have HO := Lib.hid (And.intro ho hp); clear h1 ho hp HT
    go_wp2_with fail
    refine HFL.out.mono ?_
    rintro e w2 ⟨rfl, hT2⟩; have HT2 := Lib.hid (DSTo.step (G1 := G) (HOW.out.mono (fun _ _ h => by simp at h)) (fun _ hb => .inl hb) (DSTo.step HO.out.1 HO.out.2 hT2)); clear hT2 HFL HO
    go_wp2_with fail
    go_ret
    exact ⟨rfl, HT2.out.le (by omega)⟩
end
section
open Go.RowKit Go.Op Go.Maps
def hostD (t : List Node) : PDisk := (opD (newD t) 4).flush.2
theorem run_open {w0 w : World} {p n : Nat} {D : PDisk} (h : Run w0 w p D n) (hn : n ≤ 90000) (hz : ∀ i, i < 4 → ((opD D i).mkdir (hostP i)).1 = 0 ∨ ((opD D i).mkdir (hostP i)).1 = 72) :
    Calls Tryz.prog 87 #[.pointer (some ⟨p, 0, none⟩)] w fun e w' => e = .returned (.int .i64 (opD D 4).flush.1) ∧ Run w0 w' p (opD D 4).flush.2 (n + 10) := by
  obtain ⟨G, h1, h2, h3, h4⟩ := h; exact (open_ok p n G D w h1 hn hz).mono fun e w' ⟨he, hT⟩ => ⟨he, Run.next h2 h3 h4 hT⟩
set_option maxRecDepth 100000 in
set_option maxHeartbeats 4000000 in
theorem opened_ok (fp : Option Addr) (t : List Node) (n c : Nat) (w0 w : World) (hof : Off [] w0 w) (hT : Tabs w0) (hR : Row w fp t) (hn : t.length = n) (hc : n ≤ c) (hok : okTree t = true) (hF : Fits t)
    (hz : ∀ i, i < 4 → ((opD (newD t) i).mkdir (hostP i)).1 = 0 ∨ ((opD (newD t) i).mkdir (hostP i)).1 = 72) (hfl : (opD (newD t) 4).flush.1 = 0) :
    Calls Tryz.prog 41 #[.slice fp n c] w fun e w' => ∃ gd, e = .returned (.pointer (some ⟨gd, 0, none⟩)) ∧ Run w0 w' gd (hostD t) 10 := by
  have HNEW := Lib.hid (run_new fp t n c w0 w hof hT hR hn hc hok hF); have HZ := Lib.hid (And.intro hz hfl); clear hof hT hR hn hc hok hF hz hfl
  go_enter Tryz.func41, Tryz.ntmps41
  go_wp2_with fail
  refine HNEW.out.mono ?_
  rintro e w1 ⟨gd, rfl, hr⟩; have HO := Lib.hid (run_open hr (by omega) HZ.out.1); rw [HZ.out.2] at HO; clear hr HNEW HZ
  go_wp2_with fail
  refine HO.out.mono ?_
  rintro e w2 ⟨rfl, hr⟩; have HR := Lib.hid hr; clear hr HO
  go_wp2_with fail
  go_ret
  exact ⟨gd, rfl, HR.out⟩
end
section
theorem op0_z : ∀ i, i < 4 → ((opD (newD []) i).mkdir (hostP i)).1 = 0 ∨ ((opD (newD []) i).mkdir (hostP i)).1 = 72
  | 0, _ => .inl (by decide +kernel)
  | 1, _ => .inl (by decide +kernel)
  | 2, _ => .inl (by decide +kernel)
  | 3, _ => .inl (by decide +kernel)
  | k + 4, h => absurd h (by omega)
theorem op0_f : (opD (newD []) 4).flush.1 = 0 := by decide +kernel
theorem host0_n : (hostD []).names = [(hostP 0, 1), (hostP 1, 2), (hostP 2, 3), (hostP 3, 4)] := by decide +kernel
theorem host0_s : (hostD []).safe = (hostD []).names := by decide +kernel
end
section
open Go.RowKit Go.Op Go.Maps
structure HG (D : PDisk) : Prop where
  good : Good D
  slim : Slim D
section
variable {D : PDisk} {n : Nat} {o : Option ByteArray}
theorem HG.light (h : HG D) : Light D := fun m hm => Nat.le_trans (rightN_data (h.slim m hm).1) (by decide)
theorem HG.fine (h : HG D) (hk : Ok D n) : Fine D n := ⟨hk, h.good, h.light⟩
theorem HG.ask (h : HG D) (hk : Ok D n) (c : CallP) : HG (askD D c) := ⟨h.good.ask hk c, h.slim.ask c⟩
theorem HG.write (h : HG D) (hk : Ok D n) (p s : ByteArray) (m : Int) : HG (D.write p s m).2 := h.ask hk ⟨0, p, ⟨#[]⟩, s, m⟩
theorem HG.mkdir (h : HG D) (hk : Ok D n) (p : ByteArray) : HG (D.mkdir p).2 := h.ask hk ⟨1, p, ⟨#[]⟩, ⟨#[]⟩, 0⟩
theorem HG.remove (h : HG D) (hk : Ok D n) (p : ByteArray) : HG (D.remove p).2 := h.ask hk ⟨3, p, ⟨#[]⟩, ⟨#[]⟩, 0⟩
theorem HG.replace (h : HG D) (hk : Ok D n) (p q : ByteArray) : HG (D.replace p q).2 := h.ask hk ⟨5, p, q, ⟨#[]⟩, 0⟩
theorem HG.sync (h : HG D) (hk : Ok D n) (p : ByteArray) : HG (D.sync p).2 := h.ask hk ⟨6, p, ⟨#[]⟩, ⟨#[]⟩, 0⟩
theorem HG.flush (h : HG D) (hk : Ok D n) : HG D.flush.2 := h.ask hk ⟨7, ⟨#[]⟩, ⟨#[]⟩, ⟨#[]⟩, 0⟩
theorem HG.get (h : HG D) (hk : Ok D n) (p : ByteArray) : HG (D.get p).2 := h.ask hk ⟨8, p, ⟨#[]⟩, ⟨#[]⟩, 0⟩
theorem HG.boot (h : HG D) (fs : List FateP) : HG (D.boot fs) := ⟨h.good.of (h.good.tree.of rfl rfl rfl (KS.of_inos rfl)) rfl rfl rfl, h.slim.same rfl⟩
theorem HG.load (h : HG D) (hk : Ok D n) (p : ByteArray) : HG (D.load p).2 := by
  have hg := h.get hk p; unfold PDisk.load; dsimp only
  split
  · exact hg
  split
  · exact hg
  split <;> exact hg
theorem HG.clear (h : HG D) (hk : Ok D n) (p : ByteArray) : HG (D.clear p).2 := by
  have h1 := h.remove hk p; have k1 := PDisk.remove_ok hk p; unfold PDisk.clear; dsimp only
  split
  · exact h1
  split
  · exact h1
  split <;> exact h1.flush k1
theorem HG.save (h : HG D) (hk : Ok D n) (p s : ByteArray) : HG (D.save p s).2 ∧ Ok (D.save p s).2 (n + 8) := by
  have h1 := h.write hk (besideP p) s 384; have k1 := PDisk.write_ok hk (besideP p) s 384; unfold PDisk.save; dsimp only
  split
  · exact ⟨h1, PDisk.ok_mono k1 (by omega)⟩
  have h2 := h1.sync k1 (besideP p); have k2 := PDisk.sync_ok k1 (besideP p)
  split
  · exact ⟨h2, PDisk.ok_mono k2 (by omega)⟩
  have h3 := h2.replace k2 (besideP p) p; have k3 := PDisk.replace_ok k2 (besideP p) p
  split
  · exact ⟨h3, PDisk.ok_mono k3 (by omega)⟩
  exact ⟨h3.flush k3, PDisk.ok_mono (PDisk.flush_ok k3) (by omega)⟩
theorem HG.turn (h : HG D) (hk : Ok D n) : HG D.turn.2 := by
  have h1 := h.replace hk nxtN arcN; have k1 := PDisk.replace_ok hk nxtN arcN; unfold PDisk.turn; dsimp only
  split
  · exact h1
  exact h1.flush k1
structure HS (D : PDisk) (o : Option ByteArray) : Prop where
  q : HostQ D o
  g : HG D
structure HL (D : PDisk) (o : Option ByteArray) : Prop where
  l : HostL D o
  g : HG D
theorem HS.l (h : HS D o) : HL D o := ⟨h.q.l, h.g⟩
theorem HL.load (h : HL D o) (hk : Ok D n) : (D.load arcN).1 = (o.getD ⟨#[]⟩, o.isSome, 0) ∧ HL (D.load arcN).2 o := ⟨h.l.load.1, h.l.load.2, h.g.load hk _⟩
theorem HS.load (h : HS D o) (hk : Ok D n) : (D.load arcN).1 = (o.getD ⟨#[]⟩, o.isSome, 0) ∧ HS (D.load arcN).2 o := ⟨h.q.load.1, h.q.load.2, h.g.load hk _⟩
theorem HS.loadN (h : HS D o) (hk : Ok D n) : (D.load nxtN).1 = (⟨#[]⟩, false, 0) ∧ HS (D.load nxtN).2 o := ⟨h.q.loadN.1, h.q.loadN.2, h.g.load hk _⟩
theorem HS.commit {s : ByteArray} (h : HS D o) (hk : Ok D n) (hs : s.size ≤ 65536) (hl : D.names.length ≤ 900) :
    (D.save nxtN s).1 = 0 ∧ (D.save nxtN s).2.turn.1 = 0 ∧ HS (D.save nxtN s).2.turn.2 (some s) := by
  obtain ⟨h1, h2⟩ := save_next h.q hs; obtain ⟨g1, k1⟩ := h.g.save hk nxtN s; have h3 := turn_next h.q h2 (by rw [h2.names]; have := nm2_len h.q; omega); exact ⟨h1, h3.1, h3.2.host, g1.turn k1⟩
theorem remove_ok2 (hk : Ok D n) : Ok (D.clear nxtN).2 (n + 4) := by
  have k1 := PDisk.remove_ok hk nxtN; unfold PDisk.clear; dsimp only
  split
  · exact PDisk.ok_mono k1 (by omega)
  split
  · exact PDisk.ok_mono k1 (by omega)
  split <;> exact PDisk.flush_ok k1
theorem HS.clear (h : HS D o) (hk : Ok D n) : (D.clear nxtN).1 = 0 ∧ (D.clear nxtN).2.flush.1 = 0 ∧ HS (D.clear nxtN).2.flush.2 o := by
  obtain ⟨h1, h2⟩ := h.q.clear; obtain ⟨h3, h4⟩ := h2.flush; exact ⟨h1, h3, h4, (h.g.clear hk _).flush (remove_ok2 hk)⟩
theorem HS.crash {f : FateP} (h : HS D o) (hk : Ok D n) (ha : f.at_ = 0) (hw : f.what = 3) : HS ((D.boot [f]).flush.2.boot []) o :=
  ⟨h.q.crash ha hw, ((h.g.boot [f]).flush (PDisk.boot_ok hk [f] (by simp))).boot []⟩
theorem HS.spoil {s t : ByteArray} (h : HS D (some s)) (hk : Ok D n) (ht : t.size ≤ 65536) : (D.write arcN t 0).1 = 0 ∧ HL (D.write arcN t 0).2 (some t) :=
  ⟨(h.q.spoil ht).1, (h.q.spoil ht).2, h.g.write hk _ _ _⟩
end
theorem newD_hg {t : List Node} (hok : okTree t = true) : HG (newD t) := ⟨good_new hok, Slim.new hok⟩
theorem opD_hg {t : List Node} (hok : okTree t = true) : ∀ i, HG (opD (newD t) i) ∧ Ok (opD (newD t) i) (2 * i)
  | 0 => ⟨newD_hg hok, newD_ok hok⟩
  | i + 1 => by
    obtain ⟨h1, h2⟩ := opD_hg hok i; exact ⟨h1.mkdir h2 _, PDisk.call_ok h2 _ _ _ _ fun _ _ h => PDisk.mkdir__ok h _ _⟩
theorem hostD_hg {t : List Node} (hok : okTree t = true) : HG (hostD t) := (opD_hg hok 4).1.flush (opD_hg hok 4).2
theorem hostD_ok {t : List Node} (hok : okTree t = true) : Ok (hostD t) 10 := PDisk.flush_ok (opD_hg hok 4).2
theorem hostE : HS (hostD []) none := by
  refine ⟨⟨?_, ?_, ?_, .inl ⟨rfl, ?_⟩, ?_, ?_, host0_s, ?_, ?_, fun x => ((hostD_ok (t := []) (by decide)).names x).1, ?_⟩, hostD_hg (by decide)⟩
  · have h : (match (hostD []).at_ ownB with | some n => n.node.kind == 2 | none => false) = true := by decide +kernel
    cases hat : (hostD []).at_ ownB with
    | none => rw [hat] at h; cases h
    | some n => rw [hat] at h; exact ⟨n, rfl, by simpa using h⟩
  · decide +kernel
  · decide +kernel
  · decide +kernel
  · decide +kernel
  · have h : (hostD []).fates.isEmpty = true := by decide +kernel
    exact List.isEmpty_iff.1 h
  · have h : (hostD []).later.isEmpty = true := by decide +kernel
    exact List.isEmpty_iff.1 h
  · have h : ((hostD []).inos.all fun n => !n.dirty) = true := by decide +kernel
    intro n hn
    have := List.all_eq_true.1 h n hn
    simpa using this
  rw [host0_n]; decide
theorem enc_size {a : Arc} (h : ArcOk a) (hl : a.tree.length ≤ 100) : (encV a).size ≤ 65536 := by
  have h1 := headB_le h; have h2 := itemsB_le h a.tree.length; rw [List.take_of_length_le (by rw [itemsA_len h]; exact Nat.le_refl _)] at h2; have h7 : (encV a).size = 8 + (bodyB a).length := by
    show (packB (bodyB a)).toArray.size = _
    rw [List.size_toArray, packB_len]
  rw [h7, bodyB_eq, List.length_append]; omega
end
section
open Go.RowKit Go.Op
theorem fits1_tree20 {t : List Node} (h : okTree t = true) : Fits1 t := fun n hn => by
  have h1 := okTree_small h hn; have h2 := rightN_data (okTree_right h hn); omega
theorem TwoP.treeA {w0 w : World} {pa n pb m : Nat} {A B : PDisk} {K : List Nat} (h : TwoP w0 w pa A n pb B m K) (hn : n ≤ 1000000) :
    Calls Tryz.prog 17 #[.pointer (some ⟨pa, 0, none⟩)] w fun e w' => ∃ p cap, e = .returned (.slice p A.tree.length cap) ∧ Row w' p A.tree ∧ Off [] w w' := by
  obtain ⟨Ga, Gb, h⟩ := h; refine (dtree_call pa n Ga A w h.a hn).mono fun e w' ⟨v, he, hr, ho⟩ => ?_
  obtain ⟨p, cap, rfl, h1, _⟩ := own_row hr; exact ⟨p, cap, he, h1, ho⟩
set_option maxRecDepth 100000 in
set_option maxHeartbeats 16000000 in
theorem told_any (w0 : World) (pa n pb m : Nat) (A B : PDisk) (K : List Nat) (v : Value) (x : Arc) (w : World) (h : TwoP w0 w pa A n pb B m K) (hn : n ≤ 90000)
    (hv : ArcAt w0 v x) (hl : x.tree.length ≤ 1099511627776) (o : Option ByteArray) (oa : Option Arc) (hH : HL A o) (hT : TellA o oa) (is : Bool) (his : oa.isSome = is) (hx : is = true → oa = some x) :
    Calls Tryz.prog 45 #[.pointer (some ⟨pa, 0, none⟩), v, .bool is] w fun e w' => e = .returned (.bool true) ∧ TwoP w0 w' pa (A.load arcN).2 (n + 1) pb B m K ∧ Kep K w w' := by
  obtain ⟨hl1, hH1⟩ := hH.load h.okA; have HLA := Lib.hid (fun (W : World) (G : Geo) (hG : DS W pa G A n) => cLoad_call pa n G A o oa W hG (by omega) hl1 hT); obtain ⟨A1, hA1⟩ : ∃ A1, (A.load arcN).2 = A1 := ⟨_, rfl⟩
  rw [hA1] at HLA hH1 ⊢; have HTR := Lib.hid (show ∀ k, Ok A1 k → (getB A1.tree arcN = o.isSome ∧ ∀ nd ∈ A1.tree, nd.path = arcN → nd.kind = 1 ∧ o = some nd.data) ∧ Fits1 A1.tree ∧ A1.tree.length ≤ 1000 from fun k hk => by
    have hok := tree_ok (hH1.g.fine hk) hH1.g.slim; exact ⟨arc_tree (hH1.g.fine hk) hH1.g.slim hH1.l, fits1_tree20 hok, okTree_len hok⟩)
  have HRL := Lib.hid (fun (W : World) (p : Option Addr) (c : Nat) (hR : Row W p A1.tree) (k : Nat) (hk : Ok A1 k) => rload20_any p A1.tree A1.tree.length c o oa W hR rfl (by have := (HTR.out k hk).2.2; omega) (HTR.out k hk).2.1 (HTR.out k hk).1.1 (HTR.out k hk).1.2 hT); have HX := Lib.hid (show is = true → oa.getD zA = x from fun h => by rw [hx h]; rfl)
  obtain ⟨y, hy⟩ : ∃ y, oa.getD zA = y := ⟨_, rfl⟩
  unfold LoadTo at HRL; rw [his, hy] at HRL; rw [hy] at HX; have HIY := Lib.hid (And.intro his hy); have HV := Lib.hid hv; have HL := Lib.hid hl; have H := Lib.hid h; obtain ⟨⟨tx, cx, sx, dx, rfl, _⟩, _⟩ := hv; clear h hl hl1 hH1 hA1 hH hT hx his hy HTR
  go_enter Tryz.func45, Tryz.ntmps45
  go_upto_region 1 with fail
  refine code_gen (fun W => Hid (Off [] w W ∧ Blk W w.heap.size 52 #[.string x.pair, .int .i64 x.serial, .slice tx x.tree.length cx, .slice sx x.stamps.length dx])) (Lib.hid ⟨(Off.refl _ _).alloc _, Blk.new w _ _⟩) ?_
  rintro W1 HW1; have HT1 := Lib.hid (show TwoP w0 W1 pa A n pb B m ([w.heap.size] ++ K) from H.out.more HW1.out.1 (fun b hb => by
    have a1 := HW1.out.2.lt; simp only [List.mem_cons, List.not_mem_nil, or_false] at hb; omega))
  have HK1 := Lib.hid (H.out.kep HW1.out.1)
  go_wp2_with fail
  refine (HT1.out.loadA (HLA.out W1)).mono ?_
  rintro e w2 ⟨v, rfl, hA, hT2, hk2, hfr⟩; rw [HIY.out.1]; rw [HIY.out.2] at hA hT2; have HT2 := Lib.hid hT2; have HB2 := Lib.hid (And.intro (hk2.blk HW1.out.2 (by simp)) (HK1.out.trans (hk2.sub (fun b hb => List.mem_append_right _ hb)))); have HO2 := Lib.hid hT2.since; obtain ⟨⟨tp, ca, sp, cb, rfl, _⟩, _⟩ := id hA; have HA2 := Lib.hid hA; clear hT2 hk2 HT1 HK1 HW1 HLA hA hfr
  go_upto_region 2 with fail
  refine code_gen (fun W => Hid (TwoP w0 W pa A1 (n + 1) pb B m ([w2.heap.size] ++ (arcL (.agg #[.string y.pair, .int .i64 y.serial, .slice tp y.tree.length ca, .slice sp y.stamps.length cb]) y ++ ([w.heap.size] ++ K))) ∧ Kep K w W ∧ Blk W w.heap.size 52 #[.string x.pair, .int .i64 x.serial, .slice tx x.tree.length cx, .slice sx x.stamps.length dx]
      ∧ Blk W w2.heap.size 52 #[.string y.pair, .int .i64 y.serial, .slice tp y.tree.length ca, .slice sp y.stamps.length cb] ∧ ArcAt W (.agg #[.string y.pair, .int .i64 y.serial, .slice tp y.tree.length ca, .slice sp y.stamps.length cb]) y))
    (Lib.hid ⟨HT2.out.more ((Off.refl _ _).alloc _) (fun b hb => by simp at hb; subst hb; simp), HB2.out.2.trans ((HT2.out.kep ((Off.refl _ _).alloc _)).sub (fun b hb => List.mem_append_right _ (List.mem_append_right _ hb))), HB2.out.1.alloc _, Blk.new w2 _ _, HA2.out.off ((Off.refl _ _).alloc _)⟩) ?_
  rintro W3 HW3; have HSZ := Lib.hid (show w.heap.size < w2.heap.size from HB2.out.1.lt); obtain ⟨g7, hg7⟩ : ∃ g7, w2.heap.size = g7 := ⟨_, rfl⟩
  rw [hg7] at HW3 HSZ; rw [hg7]; clear hg7 HT2 HB2 HA2 HO2
  go_wp2_with fail
  refine (HW3.out.1.treeA (by omega)).mono ?_
  rintro e w4 ⟨p, cap, rfl, hR, ho4⟩; have HR4 := Lib.hid (And.intro hR ho4); obtain ⟨kt, hkt⟩ : ∃ kt, A1.tree.length = kt := ⟨_, rfl⟩
  have HRL4 := Lib.hid (HRL.out w4 p cap HR4.out.1 (n + 1) HW3.out.1.okA); rw [hkt] at HRL4; rw [hkt]; clear hR ho4 HRL hkt
  go_wp2_with fail
  refine HRL4.out.mono ?_
  rintro e w5 ⟨v, rfl, hA, ho5, hfr⟩; obtain ⟨⟨tp2, ca2, sp2, cb2, rfl, _⟩, _⟩ := id hA; have ho : Off [] W3 w5 := HR4.out.2.trans_nil ho5
  have HX5 := Lib.hid (And.intro (HW3.out.1.drop (fun b hb => List.mem_append_right _ (List.mem_append_right _ (List.mem_append_right _ hb))) |>.off ho) (And.intro (HW3.out.2.1.trans ((HW3.out.1.kep ho).sub (fun b hb => List.mem_append_right _ (List.mem_append_right _ (List.mem_append_right _ hb))))) (And.intro (HW3.out.2.2.1.off ho (by simp)) (And.intro (HW3.out.2.2.2.1.off ho (by simp)) (And.intro (HW3.out.2.2.2.2.off ho) hA)))))
  clear hA ho5 hfr ho HW3 HR4 HRL4
  go_upto_region 3 with fail
  refine code_gen (fun W => Hid (TwoP w0 W pa A1 (n + 1) pb B m K ∧ Kep K w W ∧ Blk W w.heap.size 52 #[.string x.pair, .int .i64 x.serial, .slice tx x.tree.length cx, .slice sx x.stamps.length dx]
      ∧ Blk W g7 52 #[.string y.pair, .int .i64 y.serial, .slice tp y.tree.length ca, .slice sp y.stamps.length cb] ∧ Blk W w5.heap.size 52 #[.string y.pair, .int .i64 y.serial, .slice tp2 y.tree.length ca2, .slice sp2 y.stamps.length cb2] ∧ ArcAt W (.agg #[.string y.pair, .int .i64 y.serial, .slice tp y.tree.length ca, .slice sp y.stamps.length cb]) y ∧ ArcAt W (.agg #[.string y.pair, .int .i64 y.serial, .slice tp2 y.tree.length ca2, .slice sp2 y.stamps.length cb2]) y))
    (Lib.hid ⟨HX5.out.1.off ((Off.refl _ _).alloc _), HX5.out.2.1.trans (HX5.out.1.kep ((Off.refl _ _).alloc _)), HX5.out.2.2.1.alloc _, HX5.out.2.2.2.1.alloc _, Blk.new w5 _ _, HX5.out.2.2.2.2.1.off ((Off.refl _ _).alloc _), HX5.out.2.2.2.2.2.off ((Off.refl _ _).alloc _)⟩) ?_
  rintro W6 HW6; obtain ⟨g10, hg10⟩ : ∃ g10, w5.heap.size = g10 := ⟨_, rfl⟩
  rw [hg10] at HW6; rw [hg10]; clear hg10 HX5
  cases is
  · go_wp2_with fail
    go_ret
    exact ⟨rfl, HW6.out.1, HW6.out.2.1⟩
  obtain rfl : y = x := HX.out rfl
  have HS1 := Lib.hid (show ∀ W', Off [] W6 W' → Calls Tryz.prog 48 #[(.agg #[.string y.pair, .int .i64 y.serial, .slice tp y.tree.length ca, .slice sp y.stamps.length cb]), .agg #[.string y.pair, .int .i64 y.serial, .slice tx y.tree.length cx, .slice sx y.stamps.length dx]] W' fun e w' => e = .returned (.bool true) ∧ Off [] W' w' from fun W' ho => rf9same_any _ _ y W' (HW6.out.2.2.2.2.2.1.off ho) (HV.out.off (HW6.out.1.since.trans_nil ho)) HL.out)
  have HS2 := Lib.hid (show ∀ W', Off [] W6 W' → Calls Tryz.prog 48 #[(.agg #[.string y.pair, .int .i64 y.serial, .slice tp2 y.tree.length ca2, .slice sp2 y.stamps.length cb2]), .agg #[.string y.pair, .int .i64 y.serial, .slice tx y.tree.length cx, .slice sx y.stamps.length dx]] W' fun e w' => e = .returned (.bool true) ∧ Off [] W' w' from fun W' ho => rf9same_any _ _ y W' (HW6.out.2.2.2.2.2.2.off ho) (HV.out.off (HW6.out.1.since.trans_nil ho)) HL.out)
  have c1 := HW6.out.2.2.1.cell; have l1 := HW6.out.2.2.1.lt; have c2 := HW6.out.2.2.2.1.cell; have l2 := HW6.out.2.2.2.1.lt; have c3 := HW6.out.2.2.2.2.1.cell; have l3 := HW6.out.2.2.2.2.1.lt
  go_wp2_with fail
  refine (HS1.out _ (Off.refl [] _)).mono ?_
  rintro e' wA ⟨rfl, hoA⟩; have HOA := Lib.hid hoA; clear c1 l1 c2 l2 c3 l3 hoA; have c1 := (HW6.out.2.2.1.off HOA.out (by simp)).cell; have l1 := (HW6.out.2.2.1.off HOA.out (by simp)).lt; have c3 := (HW6.out.2.2.2.2.1.off HOA.out (by simp)).cell; have l3 := (HW6.out.2.2.2.2.1.off HOA.out (by simp)).lt
  go_wp2_with fail
  refine (HS2.out _ HOA.out).mono ?_
  rintro e' wB ⟨rfl, hoB⟩; have HOB := Lib.hid (HOA.out.trans_nil hoB); clear hoB c1 l1 c3 l3
  go_wp2_with fail
  go_ret
  exact ⟨rfl, HW6.out.1.off HOB.out, HW6.out.2.1.trans (HW6.out.1.kep HOB.out)⟩
set_option maxRecDepth 100000 in
set_option maxHeartbeats 4000000 in
theorem small_any (a0 a1 a3 b0 b1 b3 : Value) (tp tq : Option Addr) (la ca lb cb : Nat) (w : World) (ha : la ≤ 9223372036854775807) (hb : lb ≤ 9223372036854775807) (v : Bool) (hv : (decide (la ≤ 30) && decide (lb ≤ 30)) = v) :
    Calls Tryz.prog 40 #[.agg #[a0, a1, .slice tp la ca, a3, b0, b1, .slice tq lb cb, b3]] w fun e w' => e = .returned (.bool v) ∧ Off [] w w' := by
  have HA := Lib.hid (Blk.new w 88 #[a0, a1, .slice tp la ca, a3, b0, b1, .slice tq lb cb, b3]); have HO := Lib.hid ((Off.refl [] w).alloc (.cells #[a0, a1, .slice tp la ca, a3, b0, b1, .slice tq lb cb, b3] 88))
  go_enter Tryz.func40, Tryz.ntmps40
  go_upto_region 1 with fail
  refine code_gen (fun W => Hid (Off [] w W ∧ Blk W w.heap.size 88 #[a0, a1, .slice tp la ca, a3, b0, b1, .slice tq lb cb, b3])) (Lib.hid ⟨HO.out, HA.out⟩) ?_
  rintro W HW; clear HA HO; have c1 := HW.out.2.cell; have l1 := HW.out.2.lt
  by_cases h1 : la ≤ 30
  · have i1 : (decide ((la : Int) ≤ 30)) = true := decide_eq_true (by omega)
    by_cases h2 : lb ≤ 30
    · have i2 : (decide ((lb : Int) ≤ 30)) = true := decide_eq_true (by omega)
      rw [decide_eq_true h1, decide_eq_true h2] at hv; subst hv
      go_wp2_with fail
      go_ret
      exact ⟨rfl, HW.out.1⟩
    have i2 : (decide ((lb : Int) ≤ 30)) = false := decide_eq_false (by omega)
    rw [decide_eq_true h1, decide_eq_false h2] at hv; subst hv
    go_wp2_with fail
    go_ret
    exact ⟨rfl, HW.out.1⟩
  have i1 : (decide ((la : Int) ≤ 30)) = false := decide_eq_false (by omega)
  rw [decide_eq_false h1] at hv; subst hv
  go_wp2_with fail
  go_ret
  exact ⟨rfl, HW.out.1⟩
end
section
open Go.RowKit Go.Op
def awX : Arc := ⟨⟨#[112]⟩, 1, [], []⟩
theorem awX_at (w : World) : ArcAt w (.agg #[.string ⟨#[112]⟩, .int .i64 1, .slice none 0 0, .slice none 0 0]) awX :=
  ⟨⟨none, 0, none, 0, rfl, fun h => absurd rfl h, fun h => absurd rfl h, Nat.le_refl _, by decide, Nat.le_refl _, by decide, fun _ => ⟨rfl, rfl⟩⟩, fun n hn => (by cases hn), by decide, by decide, by decide, fun n hn => (by cases hn)⟩
theorem awX_m : matchV awX awX = true := by decide +kernel
theorem awX_ok (w : World) : ArcOk awX := arcOk (awX_at w) (by decide +kernel)
theorem awX_ag : agreeV (some awX) (some awX) ⟨#[112]⟩ = true := by decide +kernel
def comD (x : Arc) : PDisk := ((hostD []).save nxtN (encV x)).2.turn.2
theorem comD_q {x : Arc} (hx : ArcOk x) (hl : x.tree.length ≤ 100) : ((hostD []).save nxtN (encV x)).1 = 0 ∧ ((hostD []).save nxtN (encV x)).2.turn.1 = 0 ∧ HS (comD x) (some (encV x)) :=
  hostE.commit (hostD_ok (t := []) (by decide)) (enc_size hx hl) (by rw [host0_n]; decide)
theorem tell_enc {x : Arc} (hx : ArcOk x) : TellA (some (encV x)) (some x) := .inr ⟨_, rfl, .inr ⟨x, rfl, hx, rfl⟩⟩
theorem opened0 {w0 w : World} (hof : Off [] w0 w) (hT : Tabs w0) : Calls Tryz.prog 41 #[.slice none 0 0] w fun e w' => ∃ gd, e = .returned (.pointer (some ⟨gd, 0, none⟩)) ∧ Run w0 w' gd (hostD []) 10 :=
  opened_ok none [] 0 0 w0 w hof hT (fun h => absurd rfl h) rfl (Nat.le_refl _) (by decide) (fun n hn => by cases hn) op0_z op0_f
theorem commit_two {w0 w : World} {ga gb : Nat} {K : List Nat} {v1 v2 : Value} {x y : Arc} (h : TwoP w0 w ga (hostD []) 10 gb (hostD []) 10 K) (hA : ArcAt w v1 x) (hB : ArcAt w v2 y) (hl1 : x.tree.length ≤ 30) (hl2 : y.tree.length ≤ 30) (hm : matchV x y = true) :
    ArcOk x ∧ ArcOk y ∧ HS (comD x) (some (encV x)) ∧ HS (comD y) (some (encV y)) ∧
    Calls Tryz.prog 42 #[.pointer (some ⟨ga, 0, none⟩), .pointer (some ⟨gb, 0, none⟩), v1, v2] w fun e w' =>
      e = .returned (.int .i64 0) ∧ TwoP w0 w' ga (comD x) 22 gb (comD y) 22 K ∧ Kep K w w' := by
  have hx : okArc x = true := by unfold matchV at hm; simp only [Bool.and_eq_true] at hm; exact hm.1
  have hy : okArc y = true := by unfold matchV at hm; simp only [Bool.and_eq_true] at hm; exact hm.2.1
  have ox := arcOk hA hx; have oy := arcOk hB hy; obtain ⟨a1, a2, a3⟩ := comD_q ox (by omega); obtain ⟨b1, b2, b3⟩ := comD_q oy (by omega); exact ⟨ox, oy, a3, b3, commit_ok w0 ga 10 gb 10 _ _ K v1 v2 x y w h (by omega) (by omega) hA hB (by omega) (by omega) hm a1 b1 a2 b2⟩
set_option maxRecDepth 100000 in
set_option maxHeartbeats 8000000 in
theorem awake20_any (w : World) (hT : Tabs w) : Calls Tryz.prog 39 #[] w fun e w' => e = .returned (.bool true) ∧ Off [] w w' := by
  have HT := Lib.hid hT; clear hT
  go_enter Tryz.func39, Tryz.ntmps39
  go_wp2_with fail
  refine (opened0 (Off.refl [] w) HT.out).mono ?_
  rintro e w1 ⟨ga, rfl, hr1⟩; have H1 := Lib.hid hr1; clear hr1
  go_wp2_with fail
  refine (opened0 (Off.refl [] w1) (HT.out.off (H1.out.since))).mono ?_
  rintro e w2 ⟨gb, rfl, hr2⟩; have H2 := Lib.hid (TwoP.make H1.out hr2 HT.out); clear hr2 H1
  go_upto_region 5 with fail
  refine code_gen (fun W => Hid (TwoP w W ga (hostD []) 10 gb (hostD []) 10 [] ∧ Blk W w2.heap.size 52 #[.string ⟨#[112]⟩, .int .i64 1, .slice none 0 0, .slice none 0 0])) (Lib.hid ⟨H2.out.off ((Off.refl [] _).alloc _), Blk.new w2 _ _⟩) ?_
  rintro W3 HW3; have c1 := HW3.out.2.cell; have l1 := HW3.out.2.lt; obtain ⟨-, -, hA, -, hC⟩ := commit_two HW3.out.1 (awX_at W3) (awX_at W3) (by decide) (by decide) awX_m; have HA := Lib.hid (And.intro hA hC); clear hA hC
  go_wp2_with fail
  refine HA.out.2.mono ?_
  rintro e w4 ⟨rfl, hT4, -⟩; obtain ⟨h4, -⟩ := HA.out.1.load hT4.okA; obtain ⟨h5, -⟩ := HA.out.1.load hT4.okB; have HG := Lib.hid (agreed_any w ga 22 gb 22 _ _ [] ⟨#[112]⟩ w4 hT4 (by omega) (by omega) (some (encV awX)) (some (encV awX)) (some awX) (some awX) h4 (tell_enc (awX_ok w)) h5 (tell_enc (awX_ok w))); rw [awX_ag] at HG; clear hT4 h4 h5 HA c1 l1 HW3
  go_wp2_with fail
  refine HG.out.mono ?_
  rintro e w5 ⟨v1, v2, rfl, hA1, hA2, hT5, -⟩; obtain ⟨⟨tp, ca, sp, cb, rfl, _⟩, _⟩ := hA1; obtain ⟨⟨tp2, ca2, sp2, cb2, rfl, _⟩, _⟩ := hA2; have H5 := Lib.hid hT5.since; clear hT5 HG; unfold orA awX zA; dsimp only [Option.getD, List.length]
  go_upto_region 8 with fail
  refine code_gen (fun W => Hid (Off [] w W ∧ Blk W w5.heap.size 52 #[.string ⟨#[112]⟩, .int .i64 1, .slice tp 0 ca, .slice sp 0 cb] ∧ Blk W (w5.heap.size + 1) 52 #[.string ⟨#[112]⟩, .int .i64 1, .slice tp2 0 ca2, .slice sp2 0 cb2])) (Lib.hid ⟨(H5.out.alloc _).alloc _, (Blk.new w5 _ _).alloc _, Blk.new1 w5 _ _ _⟩) ?_
  rintro W6 HW6; have c1 := HW6.out.2.1.cell; have l1 := HW6.out.2.1.lt; have c2 := HW6.out.2.2.cell; have l2 := HW6.out.2.2.lt
  go_wp2_with fail
  go_ret
  exact ⟨rfl, HW6.out.1⟩
end
section
open Go.RowKit Go.Op
section
variable {w0 w : World} {pa n pb m : Nat} {A B : PDisk} {K : List Nat}
theorem TwoP.bootA (h : TwoP w0 w pa A n pb B m K) (fp : Option Addr) (fs : List FateP) (nf c : Nat) (hF : FRow w fp fs) (hn : fs.length = nf) (hb : nf ≤ 4398046511103) (hpn : fp = none → fs = []) :
    Calls Tryz.prog 21 #[.pointer (some ⟨pa, 0, none⟩), .slice fp nf c, .slice none 0 0] w fun e w' => e = .returned (.tuple #[]) ∧ TwoP w0 w' pa (A.boot fs) n pb B m K ∧ Kep K w w' :=
  h.callA fun G hG => dboot_call pa n G A fp fs nf c w hG hF hn hb hpn
theorem TwoP.flushA (h : TwoP w0 w pa A n pb B m K) (hn : n ≤ 1000000) :
    Calls Tryz.prog 38 #[.pointer (some ⟨pa, 0, none⟩)] w fun e w' => e = .returned (.int .i64 A.flush.1) ∧ TwoP w0 w' pa A.flush.2 (n + 2) pb B m K ∧ Kep K w w' :=
  h.callA fun G hG => flush_call pa n G A w hG hn
end
theorem load_ok20 {D : PDisk} {n : Nat} {p : ByteArray} (hk : Ok D n) : Ok (D.load p).2 (n + 1) := by
  have hg := PDisk.get_ok hk p; unfold PDisk.load; dsimp only
  split
  · exact hg
  split
  · exact hg
  split <;> exact hg
theorem TwoP.back {w0 w w3 : World} {pa n pb m : Nat} {A B : PDisk} {K : List Nat} (h : TwoP w3 w pa A n pb B m []) (ho : Off [] w0 w3) (hT : Tabs w0) (hk : ∀ b ∈ K, b < w3.heap.size) : TwoP w0 w pa A n pb B m K := by
  obtain ⟨Ga, Gb, h⟩ := h; have hz := ho.size; have hz2 := h.since.size; exact ⟨Ga, Gb, h.a, h.b, h.ab, ho.trans_nil h.since, fun x hx => Nat.le_trans hz (h.la x hx), fun x hx => Nat.le_trans hz (h.lb x hx), hT, fun x hx => ⟨Nat.lt_of_lt_of_le (hk x hx) hz2, fun hm => by have := h.la x hm; have := hk x hx; omega, fun hm => by have := h.lb x hm; have := hk x hx; omega⟩⟩
def crP (f : FateP) (D : PDisk) : Nat → PDisk | 0 => D | 1 => D.boot [f] | 2 => (D.boot [f]).flush.2 | _ => (D.boot [f]).flush.2.boot []
def StP (f : FateP) (w0 W : World) (ga gb : Nat) (bl : List (Nat × TypeId × Array Value)) (x y : Arc) (c ja jb : Nat) : Prop :=
  ∃ A n B m k, TwoP w0 W ga (crP f A ja) n gb (crP f B jb) m (bl.map (·.1)) ∧ (∀ q ∈ bl, Blk W q.1 q.2.1 q.2.2) ∧ HS A (some (encV x)) ∧ HS B (some (encV y)) ∧ n ≤ c ∧ m ≤ c ∧ Ok A k ∧ Ok B k
section
variable {f : FateP} {w0 W W' : World} {ga gb : Nat} {bl : List (Nat × TypeId × Array Value)} {x y : Arc} {c ja jb : Nat}
theorem kep_blks (h : ∀ q ∈ bl, Blk W q.1 q.2.1 q.2.2) (hk : Kep (bl.map (·.1)) W W') : ∀ q ∈ bl, Blk W' q.1 q.2.1 q.2.2 := fun q hq => hk.blk (h q hq) (List.mem_map.2 ⟨q, hq, rfl⟩)
theorem StP.swap (h : StP f w0 W ga gb bl x y c ja jb) : StP f w0 W gb ga bl y x c jb ja := by
  obtain ⟨A, n, B, m, k, h1, h2, h3, h4, h5, h6, h7, h8⟩ := h; exact ⟨B, m, A, n, k, h1.swap, h2, h4, h3, h6, h5, h8, h7⟩
theorem StP.off (h : StP f w0 W ga gb bl x y c ja jb) (ho : Off [] W W') : StP f w0 W' ga gb bl x y c ja jb := by
  obtain ⟨A, n, B, m, k, h1, h2, h3⟩ := h; exact ⟨A, n, B, m, k, h1.off ho, fun q hq => (h2 q hq).off ho (by simp), h3⟩
theorem StP.since (h : StP f w0 W ga gb bl x y c ja jb) : Off [] w0 W := by
  obtain ⟨A, n, B, m, k, h1, h2, h3⟩ := h; exact h1.since
theorem StP.blk (h : StP f w0 W ga gb bl x y c ja jb) {g : Nat} {t : TypeId} {xs : Array Value} (hq : (g, t, xs) ∈ bl) : Blk W g t xs := by
  obtain ⟨A, n, B, m, k, h1, h2, h3⟩ := h; exact h2 _ hq
theorem StP.more (h : StP f w0 W ga gb bl x y c ja jb) (ho : Off [] W W') {g : Nat} {t : TypeId} {xs : Array Value} (hg : W.heap.size ≤ g) (hb : Blk W' g t xs) : StP f w0 W' ga gb ((g, t, xs) :: bl) x y c ja jb := by
  obtain ⟨A, n, B, m, k, h1, h2, h3⟩ := h; refine ⟨A, n, B, m, k, h1.more (k' := [g]) ho (fun b hb' => ?_), fun q hq => ?_, h3⟩
  · rw [List.mem_singleton] at hb'
    subst hb'; exact ⟨hg, hb.lt⟩
  rcases List.mem_cons.1 hq with rfl | hq
  · exact hb
  exact (h2 q hq).off ho (by simp)
theorem StP.le {c' : Nat} (h : StP f w0 W ga gb bl x y c ja jb) (hc : c ≤ c') : StP f w0 W ga gb bl x y c' ja jb := by
  obtain ⟨A, n, B, m, k, h1, h2, h3, h4, h5, h6, h7⟩ := h; exact ⟨A, n, B, m, k, h1, h2, h3, h4, by omega, by omega, h7⟩
theorem StP.boot1 (h : StP f w0 W ga gb bl x y c 0 jb) {fp : Option Addr} {cp : Nat} (hF : FRow W fp [f]) (hp : fp ≠ none) :
    Calls Tryz.prog 21 #[.pointer (some ⟨ga, 0, none⟩), .slice fp 1 cp, .slice none 0 0] W fun e w' => e = .returned (.tuple #[]) ∧ StP f w0 w' ga gb bl x y c 1 jb := by
  obtain ⟨A, n, B, m, k, h1, h2, h3⟩ := h; exact (h1.bootA fp [f] 1 cp hF rfl (by decide) (fun h => absurd h hp)).mono fun e w' ⟨he, hT, hk⟩ => ⟨he, A, n, B, m, k, hT, kep_blks h2 hk, h3⟩
theorem StP.flush2 (h : StP f w0 W ga gb bl x y c 1 jb) (hc : c ≤ 80000) :
    Calls Tryz.prog 38 #[.pointer (some ⟨ga, 0, none⟩)] W fun e w' => ∃ k, e = .returned (.int .i64 k) ∧ StP f w0 w' ga gb bl x y (c + 2) 2 jb := by
  obtain ⟨A, n, B, m, k, h1, h2, h3, h4, h5, h6, h7⟩ := h; exact (h1.flushA (by omega)).mono fun e w' ⟨he, hT, hk⟩ => ⟨_, he, A, n + 2, B, m, k, hT, kep_blks h2 hk, h3, h4, by omega, by omega, h7⟩
theorem StP.boot3 (h : StP f w0 W ga gb bl x y c 2 jb) (ha : f.at_ = 0) (hw : f.what = 3) :
    Calls Tryz.prog 21 #[.pointer (some ⟨ga, 0, none⟩), .slice none 0 0, .slice none 0 0] W fun e w' => e = .returned (.tuple #[]) ∧ StP f w0 w' ga gb bl x y c 0 jb := by
  obtain ⟨A, n, B, m, k, h1, h2, h3, h4, h5, h6, h7, h8⟩ := h; exact (h1.bootA none [] 0 0 (FRow.nil _ _) rfl (by decide) (fun _ => rfl)).mono fun e w' ⟨he, hT, hk⟩ =>
    ⟨he, crP f A 3, n, B, m, max k n + max k m, hT, kep_blks h2 hk, h3.crash h7 ha hw, h4, h5, h6, PDisk.ok_mono hT.okA (by omega), PDisk.ok_mono h8 (by omega)⟩
theorem StP.told (h : StP f w0 W ga gb bl x y c 0 0) (hc : c ≤ 80000) {v : Value} (hv : ArcAt w0 v x) (hl : x.tree.length ≤ 30) (hx : ArcOk x) :
    Calls Tryz.prog 45 #[.pointer (some ⟨ga, 0, none⟩), v, .bool true] W fun e w' => e = .returned (.bool true) ∧ StP f w0 w' ga gb bl x y (c + 10) 0 0 := by
  obtain ⟨A, n, B, m, k, h1, h2, h3, h4, h5, h6, h7, h8⟩ := h; have h1 : TwoP w0 W ga A n gb B m (bl.map (·.1)) := h1
  exact (told_any w0 ga n gb m A B _ v x W h1 (by omega) hv (by omega) _ _ h3.l (tell_enc hx) true rfl (fun _ => rfl)).mono fun e w' ⟨he, hT, hk⟩ =>
    ⟨he, (A.load arcN).2, n + 1, B, m, k + n + 1, hT, kep_blks h2 hk, (h3.load h1.okA).2, h4, by omega, by omega, PDisk.ok_mono hT.okA (by omega), PDisk.ok_mono h8 (by omega)⟩
theorem StP.recover (h : StP f w0 W ga gb bl x y c 0 0) (hc : c ≤ 80000) (hx : ArcOk x) :
    Calls Tryz.prog 49 #[.pointer (some ⟨ga, 0, none⟩), .pointer (some ⟨gb, 0, none⟩)] W fun e w' => e = .returned (.int .i64 0) ∧ StP f w0 w' ga gb bl x y (c + 10) 0 0 := by
  obtain ⟨A, n, B, m, k, h1, h2, h3, h4, h5, h6, h7, h8⟩ := h; have h1 : TwoP w0 W ga A n gb B m (bl.map (·.1)) := h1
  obtain ⟨l1, q1⟩ := h3.load h1.okA; obtain ⟨l2, q2⟩ := h4.loadN h1.okB; obtain ⟨s1, t1, r1⟩ := q1.clear (load_ok20 h1.okA); obtain ⟨s2, t2, r2⟩ := q2.clear (load_ok20 h1.okB); exact (recover_ok w0 ga n gb m A B _ W h1 (by omega) (by omega) (some (encV x)) (some x) l1 (tell_enc hx) l2 s1 s2 t1 t2).mono fun e w' ⟨he, hT, hk⟩ =>
    ⟨he, _, _, _, _, n + m + 7, hT, kep_blks h2 hk, r1, r2, by omega, by omega, PDisk.ok_mono hT.okA (by omega), PDisk.ok_mono hT.okB (by omega)⟩
end
end
section
open Go.RowKit Go.Op
set_option maxRecDepth 100000 in
set_option maxHeartbeats 16000000 in
theorem cstays_any (x y : Arc) (v0 v1 v2 v3 u0 u1 u2 u3 : Value) (f : FateP) (w : World) (hx : ArcAt w (.agg #[v0, v1, v2, v3]) x) (hy : ArcAt w (.agg #[u0, u1, u2, u3]) y) (hT : Tabs w) :
    Calls Tryz.prog 9 #[.agg #[v0, v1, v2, v3, u0, u1, u2, u3], .agg #[.int .i64 f.at_, .int .i64 f.what, .int .i64 f.keep, .int .i64 f.torn]] w fun e w' => e = .returned (.bool true) ∧ Off [] w w' := by
  have HXA := Lib.hid (And.intro hx hy); obtain ⟨⟨tx, cx, sx, dx, e1, _⟩, _, hlx, _⟩ := hx; obtain ⟨⟨ty, cy, sy, dy, e2, _⟩, _, hly, _⟩ := hy; simp only [Value.agg.injEq] at e1 e2; simp only [Array.mk.injEq, List.cons.injEq, and_true] at e1 e2; obtain ⟨rfl, rfl, rfl, rfl⟩ := e1; obtain ⟨rfl, rfl, rfl, rfl⟩ := e2; have HT := Lib.hid hT; clear hT
  obtain ⟨lx, hlx'⟩ : ∃ lx, x.tree.length = lx := ⟨_, rfl⟩
  obtain ⟨ly, hly'⟩ : ∃ ly, y.tree.length = ly := ⟨_, rfl⟩
  rw [hlx'] at hlx HXA; rw [hly'] at hly HXA; rw [hlx', hly']; have HLN := Lib.hid (And.intro hlx' (And.intro hly' (And.intro hlx.1 hly.1))); clear hlx' hly' hlx hly
  go_enter Tryz.func9, Tryz.ntmps9
  go_upto_region 1 with fail
  obtain ⟨xs, hxs⟩ : ∃ xs : Array Value, xs = #[.string x.pair, .int .i64 x.serial, .slice tx lx cx, .slice sx x.stamps.length dx, .string y.pair, .int .i64 y.serial, .slice ty ly cy, .slice sy y.stamps.length dy] := ⟨_, rfl⟩
  obtain ⟨gf, hgf⟩ : ∃ gf, gf = w.heap.size + 1 := ⟨_, rfl⟩
  refine code_gen (fun W => Hid (Off [] w W ∧ Blk W w.heap.size 88 xs ∧ Blk W (w.heap.size + 1) 106 #[.int .i64 f.at_, .int .i64 f.what, .int .i64 f.keep, .int .i64 f.torn])) (Lib.hid ⟨((Off.refl _ _).alloc _).alloc _, by rw [hxs]; exact (Blk.new w _ _).alloc _, Blk.new1 w _ _ _⟩) ?_
  rintro W1 HW1
  go_wp2_with fail
  refine (awake20_any W1 (HT.out.off HW1.out.1)).mono ?_
  rintro e w2 ⟨rfl, ho2⟩; have HW2 := Lib.hid (And.intro (HW1.out.1.trans_nil ho2) (And.intro (HW1.out.2.1.off ho2 (by simp)) (HW1.out.2.2.off ho2 (by simp)))); clear HW1 ho2; subst hxs; have c1 := HW2.out.2.1.cell; have l1 := HW2.out.2.1.lt; obtain ⟨sm, hsm⟩ : ∃ sm, (decide (lx ≤ 30) && decide (ly ≤ 30)) = sm := ⟨_, rfl⟩
  have HSM := Lib.hid hsm; clear hsm
  go_wp2_with fail
  refine (small_any _ _ _ _ _ _ tx ty lx cx ly cy w2 (by have := HLN.out; omega) (by have := HLN.out; omega) sm HSM.out).mono ?_
  rintro e w3 ⟨rfl, ho3⟩; have HW3 := Lib.hid (And.intro (HW2.out.1.trans_nil ho3) (And.intro (HW2.out.2.1.off ho3 (by simp)) (HW2.out.2.2.off ho3 (by simp)))); clear HW2 ho3 c1 l1
  cases sm
  · go_wp2_with fail
    go_ret
    exact ⟨rfl, HW3.out.1⟩
  have HLE := Lib.hid (show x.tree.length ≤ 30 ∧ y.tree.length ≤ 30 from by
    have h1 := HSM.out; have h2 := HLN.out; simp only [Bool.and_eq_true, decide_eq_true_eq] at h1; omega)
  go_wp2_with fail
  refine (opened0 (Off.refl [] w3) (HT.out.off HW3.out.1)).mono ?_
  rintro e w4 ⟨ga, rfl, hr1⟩; have H4 := Lib.hid hr1; clear hr1
  go_wp2_with fail
  refine (opened0 (Off.refl [] w4) (HT.out.off (HW3.out.1.trans_nil H4.out.since))).mono ?_
  rintro e w5 ⟨gb, rfl, hr2⟩; have H5 := Lib.hid (And.intro (TwoP.back (K := [w.heap.size, w.heap.size + 1]) (TwoP.make H4.out hr2 (HT.out.off HW3.out.1)) HW3.out.1 HT.out (fun b hb => by
      have a1 := HW3.out.2.1.lt; have a2 := HW3.out.2.2.lt; simp only [List.mem_cons, List.not_mem_nil, or_false] at hb; omega)) (And.intro (HW3.out.2.1.off (H4.out.since.trans_nil hr2.since) (by simp)) (HW3.out.2.2.off (H4.out.since.trans_nil hr2.since) (by simp))))
  clear hr2 H4 HW3; obtain ⟨mt, hmt⟩ : ∃ mt, matchV x y = mt := ⟨_, rfl⟩
  have HM := Lib.hid hmt; clear hmt
  go_upto_region 6 with fail
  have c1 := H5.out.2.1.cell; have l1 := H5.out.2.1.lt
  have HOX := Lib.hid (show ∀ W, Off [] w5 W → ArcAt W (.agg #[.string x.pair, .int .i64 x.serial, .slice tx lx cx, .slice sx x.stamps.length dx]) x ∧ ArcAt W (.agg #[.string y.pair, .int .i64 y.serial, .slice ty ly cy, .slice sy y.stamps.length dy]) y from fun W ho => ⟨HXA.out.1.off (H5.out.1.since.trans_nil ho), HXA.out.2.off (H5.out.1.since.trans_nil ho)⟩)
  cases mt
  · have HC := Lib.hid (fun (W : World) (ho : Off [] w5 W) => commit_no ga gb _ _ x y W (HOX.out W ho).1 (HOX.out W ho).2 (by have := HLE.out; omega) (by have := HLE.out; omega) (HT.out.off (H5.out.1.since.trans_nil ho)) HM.out)
    go_wp2_with fail
    refine (HC.out _ (Off.refl [] _)).mono ?_
    rintro e w6 ⟨rfl, ho6⟩; have HO6 := Lib.hid (H5.out.1.since.trans_nil ho6); clear ho6 c1 l1 H5 HC HOX
    go_wp2_with fail
    go_ret
    exact ⟨rfl, HO6.out⟩
  have HC := Lib.hid (fun (W : World) (ho : Off [] w5 W) => commit_two (H5.out.1.off ho) (HOX.out W ho).1 (HOX.out W ho).2 HLE.out.1 HLE.out.2 HM.out); have HQ := Lib.hid (And.intro (HC.out _ (Off.refl [] w5)).1 (And.intro (HC.out _ (Off.refl [] w5)).2.1 (And.intro (HC.out _ (Off.refl [] w5)).2.2.1 (HC.out _ (Off.refl [] w5)).2.2.2.1)))
  have HC := Lib.hid (fun (W : World) (ho : Off [] w5 W) => (HC.out W ho).2.2.2.2)
  go_wp2_with fail
  refine (HC.out _ (Off.refl [] _)).mono ?_
  rintro e w6 ⟨rfl, hT6, hk6⟩; have HS6 := Lib.hid (show StP ⟨0, 3, f.keep, f.torn⟩ w w6 ga gb [(w.heap.size, 88, #[.string x.pair, .int .i64 x.serial, .slice tx lx cx, .slice sx x.stamps.length dx, .string y.pair, .int .i64 y.serial, .slice ty ly cy, .slice sy y.stamps.length dy]), (w.heap.size + 1, 106, #[.int .i64 f.at_, .int .i64 f.what, .int .i64 f.keep, .int .i64 f.torn])] x y 22 0 0 from
    ⟨comD x, 22, comD y, 22, 22, hT6, fun q hq => by
      simp only [List.mem_cons, List.not_mem_nil, or_false] at hq
      rcases hq with rfl | rfl
      · exact hk6.blk H5.out.2.1 (by simp)
      exact hk6.blk H5.out.2.2 (by simp), HQ.out.2.2.1, HQ.out.2.2.2, by omega, by omega, hT6.okA, hT6.okB⟩)
  clear hT6 hk6 c1 l1 H5 HC HOX; have HB7 := Lib.hid (Blk.new w6 25 #[.pointer (some ⟨ga, 0, none⟩), .pointer (some ⟨gb, 0, none⟩)]); have HS7 := Lib.hid (HS6.out.more ((Off.refl [] w6).alloc (.cells #[.pointer (some ⟨ga, 0, none⟩), .pointer (some ⟨gb, 0, none⟩)] 25)) (Nat.le_refl _) HB7.out); clear HB7 HS6
  go_upto_region 9 with fail
  generalize (w6.alloc (.cells #[.pointer (some ⟨ga, 0, none⟩), .pointer (some ⟨gb, 0, none⟩)] 25)) = W7 at HS7 ⊢
  obtain ⟨gs, hgs⟩ : ∃ gs, w6.heap.size = gs := ⟨_, rfl⟩
  rw [hgs] at HS7; rw [hgs]; clear hgs
  go_loopw [42] (fun z wr => ∃ i : Nat, z = .int .i64 i ∧ i ≤ 2 ∧ Hid (StP ⟨0, 3, f.keep, f.torn⟩ w wr ga gb [(gs, 25, #[.pointer (some ⟨ga, 0, none⟩), .pointer (some ⟨gb, 0, none⟩)]), (w.heap.size, 88, #[.string x.pair, .int .i64 x.serial, .slice tx lx cx, .slice sx x.stamps.length dx, .string y.pair, .int .i64 y.serial, .slice ty ly cy, .slice sy y.stamps.length dy]), (w.heap.size + 1, 106, #[.int .i64 f.at_, .int .i64 f.what, .int .i64 f.keep, .int .i64 f.torn])] x y (22 + 2 * i) 0 0)) (fun z _ => 2 - (intOf z).toNat)
  case atStart => exact ⟨0, rfl, by omega, HS7⟩
  case round =>
    obtain ⟨i, rfl, hi, HR⟩ := hrel; have hBs := HR.out.blk (g := gs) (List.mem_cons_self ..); have hBf := HR.out.blk (g := w.heap.size + 1) (List.mem_cons_of_mem _ (List.mem_cons_of_mem _ (List.mem_cons_self ..))); have hls := hBs.lt; have hcf := hBf.cell; have hlf := hBf.lt; clear hBf
    by_cases hlt : i < 2
    · have hltI : (i : Int) < 2 := by omega
      rcases (show i = 0 ∨ i = 1 by omega) with hi0 | hi0
      · have hc : wr.cell? ⟨gs, i, none⟩ = some (.pointer (some ⟨ga, 0, none⟩)) := by rw [hBs.cell, hi0]; rfl
        clear hi0
        go_wp2_with fail
        refine ((HR.out.off ((Off.refl [] _).alloc _)).boot1 (FRow.one _ (Blk.new _ _ _)) (by simp)).mono ?_
        rintro e w8 ⟨rfl, hS⟩; have HS8 := Lib.hid hS; clear hS hc hcf hlf hls hBs
        go_wp2_with fail
        refine (HS8.out.flush2 (by omega)).mono ?_
        rintro e w9 ⟨k, rfl, hS⟩; have HS9 := Lib.hid hS; clear hS HS8
        go_wp2_with fail
        refine (HS9.out.boot3 rfl rfl).mono ?_
        rintro e w10 ⟨rfl, hS⟩
        have HS10 := Lib.hid (show StP ⟨0, 3, f.keep, f.torn⟩ w w10 ga gb [(gs, 25, #[.pointer (some ⟨ga, 0, none⟩), .pointer (some ⟨gb, 0, none⟩)]), (w.heap.size, 88, #[.string x.pair, .int .i64 x.serial, .slice tx lx cx, .slice sx x.stamps.length dx, .string y.pair, .int .i64 y.serial, .slice ty ly cy, .slice sy y.stamps.length dy]), (w.heap.size + 1, 106, #[.int .i64 f.at_, .int .i64 f.what, .int .i64 f.keep, .int .i64 f.torn])] x y (22 + 2 * (i + 1)) 0 0 from hS.le (by omega))
        clear hS HS9
        go_wp2_with fail
        exact ⟨⟨i + 1, by congr 1, by omega, HS10⟩, by simp only [intOf]; omega⟩
      have hc : wr.cell? ⟨gs, i, none⟩ = some (.pointer (some ⟨gb, 0, none⟩)) := by rw [hBs.cell, hi0]; rfl
      clear hi0
      go_wp2_with fail
      refine ((HR.out.swap.off ((Off.refl [] _).alloc _)).boot1 (FRow.one _ (Blk.new _ _ _)) (by simp)).mono ?_
      rintro e w8 ⟨rfl, hS⟩; have HS8 := Lib.hid hS; clear hS hc hcf hlf hls hBs
      go_wp2_with fail
      refine (HS8.out.flush2 (by omega)).mono ?_
      rintro e w9 ⟨k, rfl, hS⟩; have HS9 := Lib.hid hS; clear hS HS8
      go_wp2_with fail
      refine (HS9.out.boot3 rfl rfl).mono ?_
      rintro e w10 ⟨rfl, hS⟩
      have HS10 := Lib.hid (show StP ⟨0, 3, f.keep, f.torn⟩ w w10 ga gb [(gs, 25, #[.pointer (some ⟨ga, 0, none⟩), .pointer (some ⟨gb, 0, none⟩)]), (w.heap.size, 88, #[.string x.pair, .int .i64 x.serial, .slice tx lx cx, .slice sx x.stamps.length dx, .string y.pair, .int .i64 y.serial, .slice ty ly cy, .slice sy y.stamps.length dy]), (w.heap.size + 1, 106, #[.int .i64 f.at_, .int .i64 f.what, .int .i64 f.keep, .int .i64 f.torn])] x y (22 + 2 * (i + 1)) 0 0 from hS.swap.le (by omega))
      clear hS HS9
      go_wp2_with fail
      exact ⟨⟨i + 1, by congr 1, by omega, HS10⟩, by simp only [intOf]; omega⟩
    obtain rfl : i = 2 := by omega
    have Z0 := Lib.hid HR.out; clear hBs hls hcf hlf HR; have c8 := (Z0.out.blk (g := w.heap.size) (List.mem_cons_of_mem _ (List.mem_cons_self ..))).cell; have l8 := (Z0.out.blk (g := w.heap.size) (List.mem_cons_of_mem _ (List.mem_cons_self ..))).lt
    go_wp2_with fail
    refine (Z0.out.told (by omega) HXA.out.1 HLE.out.1 HQ.out.1).mono ?_
    rintro e wZ1 ⟨rfl, hS⟩; have Z1 := Lib.hid hS; clear hS c8 l8 Z0; have c8 := (Z1.out.blk (g := w.heap.size) (List.mem_cons_of_mem _ (List.mem_cons_self ..))).cell; have l8 := (Z1.out.blk (g := w.heap.size) (List.mem_cons_of_mem _ (List.mem_cons_self ..))).lt
    go_wp2_with fail
    refine (Z1.out.swap.told (by omega) HXA.out.2 HLE.out.2 HQ.out.2.1).mono ?_
    rintro e wZ2 ⟨rfl, hS⟩; have Z2 := Lib.hid hS.swap; clear hS c8 l8 Z1; have c8 := (Z2.out.blk (g := w.heap.size) (List.mem_cons_of_mem _ (List.mem_cons_self ..))).cell; have l8 := (Z2.out.blk (g := w.heap.size) (List.mem_cons_of_mem _ (List.mem_cons_self ..))).lt
    go_wp2_with fail
    refine (Z2.out.recover (by omega) HQ.out.1).mono ?_
    rintro e wZ3 ⟨rfl, hS⟩; have Z3 := Lib.hid hS; clear hS c8 l8 Z2; have c8 := (Z3.out.blk (g := w.heap.size) (List.mem_cons_of_mem _ (List.mem_cons_self ..))).cell; have l8 := (Z3.out.blk (g := w.heap.size) (List.mem_cons_of_mem _ (List.mem_cons_self ..))).lt
    go_wp2_with fail
    refine (Z3.out.told (by omega) HXA.out.1 HLE.out.1 HQ.out.1).mono ?_
    rintro e wZ4 ⟨rfl, hS⟩; have Z4 := Lib.hid hS; clear hS c8 l8 Z3; have c8 := (Z4.out.blk (g := w.heap.size) (List.mem_cons_of_mem _ (List.mem_cons_self ..))).cell; have l8 := (Z4.out.blk (g := w.heap.size) (List.mem_cons_of_mem _ (List.mem_cons_self ..))).lt
    go_wp2_with fail
    refine (Z4.out.swap.told (by omega) HXA.out.2 HLE.out.2 HQ.out.2.1).mono ?_
    rintro e wZ5 ⟨rfl, hS⟩; have Z5 := Lib.hid hS.swap; clear hS c8 l8 Z4
    go_wp2_with fail
    go_ret
    exact ⟨rfl, Z5.out.since⟩
end
end Go.Proofs.YtoicjadioiomkaaGreatDoor
