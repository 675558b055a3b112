/- Texts of this claim, one behind the other: DBoot Quiet Store WholeLaw SaveLaw DRun DAwake StoreLaw StoreLaw2 SAwake. Conditions: what each lemma states. -/
import Derived.Test.YtoicjadioiomkaaGreatDoorJg
import Derived.Test.YtoicjadioiomkaaGreatDoorJc
import Derived.Test.YtoicjadioiomkaaGreatDoorJd
import Derived.Lib.SliceRun
import Derived.KernelRfl
set_option linter.unusedVariables false
set_option linter.unusedSimpArgs false
namespace Go.Proofs.YtoicjadioiomkaaGreatDoor
section
open Go.RowKit Go.Op Go.Maps
def FRow (w : World) (p : Option Addr) (fs : List FateP) : Prop :=
  fs ≠ [] → ∃ a, p = some a ∧ a.block < w.heap.size ∧ ∀ (j : Nat) (u : Value), (fs.flatMap fateCells)[j]? = some u → w.cell? (a.add j) = some u
theorem FRow.nil (w : World) (p : Option Addr) : FRow w p [] := fun h => absurd rfl h
theorem FRow.one {w : World} {g : Nat} (f : FateP) (h : Blk w g 106 #[.int .i64 f.at_, .int .i64 f.what, .int .i64 f.keep, .int .i64 f.torn]) : FRow w (some ⟨g, 0, none⟩) [f] := fun _ =>
  ⟨_, rfl, h.lt, fun j u hj => by
    rw [addr_add, h.cell]
    simpa [fateCells] using hj⟩
theorem fate_len : ∀ (fs : List FateP), (fs.flatMap fateCells).length = fs.length * 4
  | [] => rfl
  | f :: fs => by rw [List.flatMap_cons, List.length_append, fate_len fs]; simp [fateCells]; omega
theorem fate_at : ∀ (fs : List FateP) (j : Nat) (f : FateP), fs[j]? = some f → ∀ (i : Nat) (u : Value), (fateCells f)[i]? = some u → (fs.flatMap fateCells)[j * 4 + i]? = some u
  | [], j, f, h, _, _, _ => by simp at h
  | x :: fs, 0, f, h, i, u, hu => by
    simp at h
    subst h; rw [List.flatMap_cons, Nat.zero_mul, Nat.zero_add, List.getElem?_append_left (List.getElem?_eq_some_iff.1 hu).1]; exact hu
  | x :: fs, j + 1, f, h, i, u, hu => by
    rw [List.flatMap_cons, List.getElem?_append_right (by simp [fateCells]; omega)]; rw [show (j + 1) * 4 + i - (fateCells x).length = j * 4 + i by simp [fateCells]; omega]; exact fate_at fs j f (by simpa using h) i u hu
theorem fate_one (fs : List FateP) : ∀ u ∈ fs.flatMap fateCells, u.oneCell' = true := by
  intro u hu
  obtain ⟨n, _, hn⟩ := List.mem_flatMap.1 hu; simp [fateCells] at hn
  rcases hn with rfl | rfl | rfl | rfl <;> rfl
theorem infoFate : (Tryz.prog.info? 106).map (fun i => (i.zero, i.size, i.bytes)) = some (some (.agg #[.int .i64 0, .int .i64 0, .int .i64 0, .int .i64 0]), 4, 32) := by kernel_rfl
set_option maxRecDepth 100000 in
set_option maxHeartbeats 4000000 in
theorem fclone_any (p : Option Addr) (fs : List FateP) (n cap : Nat) (w : World) (hR : FRow w p fs) (hn : fs.length = n) (hbig : n ≤ 4398046511103) (hpn : p = none → fs = []) :
    Calls Tryz.prog 61 #[.slice p n cap] w fun e w' => ∃ v, e = .returned v ∧ w'.ownsRow w.heap.size 106 4 v n (fs.flatMap fateCells) ∧ Off [] w w' := by
  obtain ⟨i0, hi0, hz0, hz1, hz2⟩ := info_parts infoFate; have q22 : ∀ (w : World) (a : Option Addr) (n c n' c' : Nat), (binOp .eql 47 (.slice a n c) (.slice none n' c')).run Tryz.prog w = .ok (.bool a.isNone) w := fun w a n c n' c' => Lib.run_eql_slice_nil w _ _ a n c n' c' Tryz.underlying47
  cases p with
  | none =>
    obtain rfl := hpn rfl; obtain rfl : 0 = n := hn
    clear hR hpn
    go_enter Tryz.func61, Tryz.ntmps61
    go_wp2_with fail
    go_ret
    exact ⟨_, rfl, ⟨rfl, .inl ⟨rfl, rfl⟩⟩, Off.refl _ _⟩
  | some a =>
    have HC := Lib.hid (show ∀ (j : Nat) (u : Value), (fs.flatMap fateCells)[j]? = some u → w.cell? (a.add j) = some u from fun j u hj => by
      obtain ⟨a', e, _, h⟩ := hR (fun e => by subst e; simp at hj)
      cases e
      exact h j u hj)
    have HO := Lib.hid (fate_one fs); have HCL := Lib.hid (show (fs.flatMap fateCells).length = n * 4 by rw [fate_len, hn]); clear hR hpn hn
    go_enter Tryz.func61, Tryz.ntmps61
    go_wp2_with (at_builtin; refine wpList_append_own _ rfl _ _ 47 rfl w.heap.size 106 i0 _ 4 32 Tryz.underlying47 hi0 hz0 hz1 hz2 rfl (by decide) _ _ _ rfl (World.ownsRow_made w #[] 0 (Nat.le_refl _) (Nat.zero_le _) rfl) a n cap (fs.flatMap fateCells) rfl HCL.out ?qc2 HO.out ?qc4 ?qc5 ?qc6 ?_)
    case qc2 =>
      intro j u hj
      exact Lib.cell?_alloc_some _ (HC.out j u hj)
    case qc4 => unfold maxLen; omega
    case qc5 => omega
    case qc6 => simp
    intro v' w1 hown hgrow hnil
    go_wp2_with fail
    go_ret
    refine ⟨v', rfl, by simpa using hown, ?_⟩
    exact ((Off.refl _ w).alloc _).grown hgrow (by intro k hk; simp [Value.ownBlock] at hk; omega)
theorem fatesAt_own {w : World} {base : Nat} {v : Value} {fs : List FateP} (h : w.ownsRow base 106 4 v fs.length (fs.flatMap fateCells)) : FatesAt w v v.ownBlock.toList fs ∧ ∀ b ∈ v.ownBlock.toList, base ≤ b ∧ ∃ cs, Blk w b 106 cs := by
  rcases h.2 with ⟨rfl, h1⟩ | ⟨g, cap, cur, rfl, hb, hh, hc, _, hsz, ht⟩
  · refine ⟨⟨none, 0, by rw [h1], by omega, fun hne => absurd (List.length_eq_zero_iff.1 h1) hne⟩, fun b hb => by simp [Value.ownBlock] at hb⟩
  have hB : Blk w g 106 cur := hh
  refine ⟨⟨some ⟨g, 0, none⟩, cap, rfl, hc, fun _ => ⟨g, rfl, by simp [Value.ownBlock], hB.lt, fun j f hj i u hu => ?_⟩⟩, fun b hb' => ?_⟩
  · rw [hB.cell]
    have h3 := fate_at fs j f hj i u hu; rw [← ht, List.getElem?_take] at h3
    split at h3
    · simpa using h3
    cases h3
  simp [Value.ownBlock] at hb'
  subst hb'; exact ⟨hb, _, hB⟩
set_option maxRecDepth 100000 in
set_option maxHeartbeats 8000000 in
theorem dboot_callE0 (p n : Nat) (G : Geo) (D : PDisk) (fp : Option Addr) (fs : List FateP) (nf c : Nat) (w : World) (h : DSE w p G D n) (hF : FRow w fp fs) (hn : fs.length = nf) (hb : nf ≤ 4398046511103) (hpn : fp = none → fs = []) :
    Calls Tryz.prog 21 #[.pointer (some ⟨p, 0, none⟩), .slice fp nf c, .slice none 0 0] w fun e w' => e = .returned (.tuple #[]) ∧ DSETo w p G.parts w' (D.boot fs) n := by
  have H := Lib.hid h; have HCL := Lib.hid (fclone_any fp fs nf c w hF hn (by omega) hpn); have HN := Lib.hid hn; have hc0 := h.m.blk.cell; unfold diskCells at hc0; clear h hF hn hpn
  go_enter Tryz.func21, Tryz.ntmps21
  go_wp2_with fail
  refine HCL.out.mono ?_
  rintro e w1 ⟨v0, rfl, hown, ho⟩; obtain ⟨pv, cv, rfl⟩ := row_len hown; have H1 := Lib.hid (H.out.off ho); have HOWN := Lib.hid hown; have HO := Lib.hid ho; have hc := H1.out.m.blk.cell; have hf := H1.out.m.blk.frozen; have hl := H1.out.m.blk.lt; unfold diskCells at hc; clear hown ho hc0
  go_upto_region 2 with fail
  refine code_gen (fun W => Blk W p 115 (((((diskCells G D).setIfInBounds 5 (.bool false)).setIfInBounds 7 (.slice none 0 0)).setIfInBounds 8 (.slice pv nf cv)).setIfInBounds 9 (.slice none 0 0)) ∧ Off [p] w1 W)
    ⟨(((H1.out.m.blk.set_ 5 _).set_ 7 _).set_ 8 _).set_ 9 _, ((((Off.refl [p] w1).setCell (.inr (by simp)) _).setCell (.inr (by simp)) _).setCell (.inr (by simp)) _).setCell (.inr (by simp)) _⟩ ?_
  rintro W ⟨hB, hoW⟩; have HB := Lib.hid hB; have HOW := Lib.hid hoW; clear hc hf hl hB hoW
  go_wp2_with fail
  go_loopw [26] (fun x wr => x = .int .i64 0 ∧ wr = W) (fun _ _ => 0)
  case atStart => exact ⟨rfl, rfl⟩
  case round =>
    obtain ⟨rfl, rfl⟩ := hrel
    go_wp2_with fail
    refine bodyPost_end (results_none rfl _ _ _) rfl ?_
    refine ⟨rfl, ?_⟩
    have hown := HOWN.out; generalize (Value.slice pv nf cv) = v at hown HB; rw [← HN.out] at hown; obtain ⟨hFA, hFB⟩ := fatesAt_own hown; have hpl : ∀ b ∈ v.ownBlock.toList, b ≠ p := fun b hb e => by
      have := (hFB b hb).1; have := H.out.m.blk.lt; omega
    have hPW := H1.out.m.parts.off HOW.out (fun b hb h => by simp at h; subst h; exact H1.out.m.far hb); refine H.out.to (Off.refl _ _) ⟨{ G with tv := .slice none 0 0, fv := v, fb := v.ownBlock.toList }, ⟨?_, ?_⟩, ?_, ?_, H.out.sb⟩ (PDisk.boot_ok H.out.ok fs (by rw [HN.out]; omega))
    · have := HB.out
      unfold diskCells at this ⊢
      simpa [PDisk.boot] using this
    · exact {
        names := hPW.names
        safe := hPW.safe
        later := hPW.later
        lbl := hPW.lbl
        laters := hPW.laters
        ino := hPW.ino
        qsl := hPW.qsl
        inos := hPW.inos
        nodup := hPW.nodup
        trace := World.ownsRow_nil _ 0 _ 3
        fates := ⟨hFA.off HOW.out (fun b hb h => by simp at h; exact hpl b hb h), EditsAt.nil _ _⟩
        fbl := fun g hg => by
          obtain ⟨_, cs, hB⟩ := hFB g hg; exact ⟨_, cs, hB.off HOW.out (fun h => by simp at h; exact hpl g hg h), .inl rfl⟩
        apart := hPW.apart }
    · exact (HO.out.mono (fun _ _ h => by simp at h)).trans HOW.out (fun x _ h => by simp at h; subst h; exact List.mem_cons_self ..)
    intro b hb
    rcases List.mem_cons.1 hb with rfl | hb
    · exact .inl (List.mem_cons_self ..)
    rcases mem_rest.1 hb with h | h | h | h | h | h | h
    · exact .inl (List.mem_cons_of_mem _ (mem_rest.2 (.inl h)))
    · exact .inl (List.mem_cons_of_mem _ (mem_rest.2 (.inr (.inl h))))
    · exact .inl (List.mem_cons_of_mem _ (mem_rest.2 (.inr (.inr (.inl h)))))
    · exact .inl (List.mem_cons_of_mem _ (mem_rest.2 (.inr (.inr (.inr (.inl h))))))
    · exact .inl (List.mem_cons_of_mem _ (mem_rest.2 (.inr (.inr (.inr (.inr (.inl h)))))))
    · simp [Value.ownBlock] at h
    exact .inr (hFB b h).1
end
section
open Go.RowKit Go.Op Go.Maps
structure DS (w : World) (p : Nat) (G : Geo) (D : PDisk) (n : Nat) : Prop where
  m : DiskM w p G D
  sb : G.sb.isSome = true
  ok : Ok D n
  tabs : TabsX w p G.parts
  quiet : D.edits = []
theorem DS.e {w : World} {p n : Nat} {G : Geo} {D : PDisk} (h : DS w p G D n) : DSE w p G D n := ⟨h.m, h.sb, h.ok, h.tabs⟩
theorem DS.eok {w : World} {p n : Nat} {G : Geo} {D : PDisk} (h : DS w p G D n) : EditsOk D n := EditsOk.quiet h.quiet h.ok
theorem DS.off {w w' : World} {p n : Nat} {G : Geo} {D : PDisk} (h : DS w p G D n) (ho : Off [] w w') : DS w' p G D n :=
  ⟨h.m.off ho (by simp) (by simp), h.sb, h.ok, h.tabs.next (ho.mono (fun _ _ h => by simp at h)) (fun _ hb => .inl hb), h.quiet⟩
def DSTo (w : World) (p : Nat) (L : List Nat) (w' : World) (D : PDisk) (n : Nat) : Prop := ∃ G, DS w' p G D n ∧ Off (p :: L) w w' ∧ ∀ b ∈ G.parts, b ∈ L ∨ w.heap.size ≤ b
theorem DSTo.next {w w1 w2 : World} {p n n2 : Nat} {L : List Nat} {D1 D2 : PDisk} (h : DSTo w p L w1 D1 n) (k : ∀ G1, DS w1 p G1 D1 n → DSTo w1 p G1.parts w2 D2 n2) : DSTo w p L w2 D2 n2 := by
  obtain ⟨G1, h1, h2, h3⟩ := h; obtain ⟨G2, h4, h5, h6⟩ := k G1 h1; refine ⟨G2, h4, h2.trans h5 (fun x hx hm => ?_), fun b hb => ?_⟩
  · rcases List.mem_cons.1 hm with rfl | hm
    · exact List.mem_cons_self ..
    rcases h3 x hm with h | h
    · exact List.mem_cons_of_mem _ h
    omega
  rcases h6 b hb with h | h
  · exact h3 b h
  exact .inr (Nat.le_trans h2.size h)
theorem DSTo.step {w w1 w2 : World} {p n2 : Nat} {L : List Nat} {G1 : Geo} {D2 : PDisk} (ho : Off (p :: L) w w1) (hp : ∀ b ∈ G1.parts, b ∈ L ∨ w.heap.size ≤ b) (k : DSTo w1 p G1.parts w2 D2 n2) : DSTo w p L w2 D2 n2 := by
  obtain ⟨G2, h4, h5, h6⟩ := k; refine ⟨G2, h4, ho.trans h5 (fun x hx hm => ?_), fun b hb => ?_⟩
  · rcases List.mem_cons.1 hm with rfl | hm
    · exact List.mem_cons_self ..
    rcases hp x hm with h | h
    · exact List.mem_cons_of_mem _ h
    omega
  rcases h6 b hb with h | h
  · exact hp b h
  exact .inr (Nat.le_trans ho.size h)
theorem DSTo.off {w w1 w2 : World} {p n : Nat} {L : List Nat} {D : PDisk} (h : DSTo w p L w1 D n) (ho : Off [] w1 w2) : DSTo w p L w2 D n :=
  h.next fun G1 h1 => ⟨G1, h1.off ho, ho.mono (fun _ _ h => by simp at h), fun _ hb => .inl hb⟩
theorem DS.refl {w : World} {p n : Nat} {G : Geo} {D : PDisk} (h : DS w p G D n) : DSTo w p G.parts w D n := ⟨G, h, Off.refl _ _, fun _ hb => .inl hb⟩
theorem DSTo.le {w w' : World} {p n m : Nat} {L : List Nat} {D : PDisk} (h : DSTo w p L w' D n) (hm : n ≤ m) : DSTo w p L w' D m := by
  obtain ⟨G, h1, h2, h3⟩ := h; exact ⟨G, ⟨h1.m, h1.sb, PDisk.ok_mono h1.ok hm, h1.tabs, h1.quiet⟩, h2, h3⟩
theorem DSTo.of {w w' : World} {p n : Nat} {L : List Nat} {D : PDisk} (h : DSETo w p L w' D n) (hq : D.edits = []) : DSTo w p L w' D n := by
  obtain ⟨G, h1, h2, h3⟩ := h; exact ⟨G, ⟨h1.m, h1.sb, h1.ok, h1.tabs, hq⟩, h2, h3⟩
theorem DS.lift {w : World} {p n n' : Nat} {G : Geo} {D D' : PDisk} {f : FuncId} {args : Array Value} {R : Ending → Prop} {w0 : World} (_h : DS w p G D n) (hc : Calls Tryz.prog f args w0 fun e w' => R e ∧ DSETo w p G.parts w' D' n') (hq : D'.edits = []) :
    Calls Tryz.prog f args w0 fun e w' => R e ∧ DSTo w p G.parts w' D' n' := hc.mono fun _ _ ⟨he, hT⟩ => ⟨he, DSTo.of hT hq⟩
theorem step_edits (D : PDisk) (c p q : ByteArray) : (D.step c p q).2.2.edits = D.edits := by
  unfold PDisk.step
  split
  · rfl
  dsimp only
  split
  · rfl
  split
  · rfl
  split <;> rfl
theorem call_edits (D : PDisk) (c p q : ByteArray) (k : PDisk → Bool → Int × PDisk) (hk : ∀ E full, (k E full).2.edits = E.edits) : (D.call c p q k).2.edits = D.edits := by
  have h := step_edits D c p q; unfold PDisk.call; generalize D.step c p q = st at h; obtain ⟨full, e, E⟩ := st; dsimp only at h ⊢
  split
  · exact h
  exact (hk E full).trans h
theorem lay_edits (D : PDisk) (p : ByteArray) (n : Node) (full : Bool) (l : List (Bool × Int)) : (D.lay p n full l).2.edits = D.edits := by
  unfold PDisk.lay; dsimp only
  split <;> rfl
theorem write_edits (D : PDisk) (p data : ByteArray) (mode : Int) : (D.write p data mode).2.edits = D.edits := call_edits _ _ _ _ _ fun E full => by
  unfold PDisk.write_
  cases E.at_ p with
  | none => exact lay_edits _ _ _ _ _
  | some o => dsimp only; split <;> rfl
theorem mkdir_edits (D : PDisk) (p : ByteArray) : (D.mkdir p).2.edits = D.edits := call_edits _ _ _ _ _ fun _ _ => lay_edits _ _ _ _ _
theorem sync_edits (D : PDisk) (p : ByteArray) : (D.sync p).2.edits = D.edits := call_edits _ _ _ _ _ fun E full => by
  unfold PDisk.sync_; dsimp only
  split
  · rfl
  cases E.at_ p <;> rfl
theorem replace_edits (D : PDisk) (p q : ByteArray) : (D.replace p q).2.edits = D.edits := call_edits _ _ _ _ _ fun E full => by
  unfold PDisk.replace_; dsimp only
  split <;> rfl
theorem remove_edits (D : PDisk) (p : ByteArray) : (D.remove p).2.edits = D.edits := call_edits _ _ _ _ _ fun E full => by
  unfold PDisk.remove_; dsimp only
  split <;> rfl
theorem flush_edits (D : PDisk) : D.flush.2.edits = D.edits := call_edits _ _ _ _ _ fun _ _ => rfl
theorem get_edits (D : PDisk) (p : ByteArray) : (D.get p).2.edits = D.edits := by
  have h := step_edits D ⟨#[71, 101, 116]⟩ p ⟨#[]⟩; unfold PDisk.get; generalize D.step ⟨#[71, 101, 116]⟩ p ⟨#[]⟩ = st at h; obtain ⟨full, e, E⟩ := st; dsimp only at h ⊢
  split <;> exact h
section
variable {w : World} {p n : Nat} {G : Geo} {D : PDisk}
theorem flush_call (p n : Nat) (G : Geo) (D : PDisk) (w : World) (h : DS w p G D n) (hn : n ≤ 1000000) :
    Calls Tryz.prog 38 #[.pointer (some ⟨p, 0, none⟩)] w fun e w' => e = .returned (.int .i64 D.flush.1) ∧ DSTo w p G.parts w' D.flush.2 (n + 2) := by
  have := flush_callE p n G D w h.e h.eok (by omega); rw [PDisk.edited_quiet h.quiet] at this; exact h.lift this ((flush_edits _).trans h.quiet)
theorem dtree_call (p n : Nat) (G : Geo) (D : PDisk) (w : World) (h : DS w p G D n) (hn : n ≤ 1000000) :
    Calls Tryz.prog 17 #[.pointer (some ⟨p, 0, none⟩)] w fun e w' => ∃ v, e = .returned v ∧ w'.ownsRow w.heap.size 30 4 v D.tree.length (cellsOf D.tree) ∧ Off [] w w' := dtree_callE p n G D w h.e (by omega)
theorem dboot_call (p n : Nat) (G : Geo) (D : PDisk) (fp : Option Addr) (fs : List FateP) (nf c : Nat) (w : World) (h : DS w p G D n) (hF : FRow w fp fs) (hn : fs.length = nf) (hb : nf ≤ 4398046511103) (hpn : fp = none → fs = []) :
    Calls Tryz.prog 21 #[.pointer (some ⟨p, 0, none⟩), .slice fp nf c, .slice none 0 0] w fun e w' => e = .returned (.tuple #[]) ∧ DSTo w p G.parts w' (D.boot fs) n :=
  h.lift (dboot_callE0 p n G D fp fs nf c w h.e hF hn hb hpn) rfl
theorem dsync_call (p n : Nat) (G : Geo) (D : PDisk) (path : ByteArray) (w : World) (h : DS w p G D n) (hn : n ≤ 1000000) (hs : path.size ≤ 9223372036854775807) :
    Calls Tryz.prog 37 #[.pointer (some ⟨p, 0, none⟩), .string path] w fun e w' => e = .returned (.int .i64 (D.sync path).1) ∧ DSTo w p G.parts w' (D.sync path).2 (n + 2) := by
  have := dsync_callE p n G D path w h.e h.eok (by omega) hs; rw [PDisk.edited_quiet h.quiet] at this; exact h.lift this ((sync_edits _ _).trans h.quiet)
theorem dget_call (p n : Nat) (G : Geo) (D : PDisk) (path : ByteArray) (w : World) (h : DS w p G D n) (hn : n ≤ 1000000) (hs : path.size ≤ 9223372036854775807) :
    Calls Tryz.prog 43 #[.pointer (some ⟨p, 0, none⟩), .string path] w fun e w' => e = .returned (getVal (D.get path).1) ∧ DSTo w p G.parts w' (D.get path).2 (n + 1) := by
  have := dget_callE p n G D path w h.e h.eok (by omega) hs; rw [PDisk.edited_quiet h.quiet] at this; exact h.lift this ((get_edits _ _).trans h.quiet)
theorem dwrite_call (p n : Nat) (G : Geo) (D : PDisk) (path data : ByteArray) (mode : Int) (w : World) (h : DS w p G D n) (hn : n ≤ 1000000) (hs : path.size ≤ 9223372036854775807) :
    Calls Tryz.prog 33 #[.pointer (some ⟨p, 0, none⟩), .string path, .string data, .int .i64 mode] w fun e w' => e = .returned (.int .i64 (D.write path data mode).1) ∧ DSTo w p G.parts w' (D.write path data mode).2 (n + 2) := by
  have := dwrite_callE p n G D path data mode w h.e h.eok (by omega) hs; rw [PDisk.edited_quiet h.quiet] at this; exact h.lift this ((write_edits _ _ _ _).trans h.quiet)
theorem dreplace_call (p n : Nat) (G : Geo) (D : PDisk) (path q : ByteArray) (w : World) (h : DS w p G D n) (hn : n ≤ 1000000) (hs : path.size ≤ 9223372036854775807) (hsq : q.size ≤ 9223372036854775807) :
    Calls Tryz.prog 36 #[.pointer (some ⟨p, 0, none⟩), .string path, .string q] w fun e w' => e = .returned (.int .i64 (D.replace path q).1) ∧ DSTo w p G.parts w' (D.replace path q).2 (n + 2) := by
  have := dreplace_callE p n G D path q w h.e h.eok (by omega) hs hsq; rw [PDisk.edited_quiet h.quiet] at this; exact h.lift this ((replace_edits _ _ _).trans h.quiet)
theorem dremove_call (p n : Nat) (G : Geo) (D : PDisk) (path : ByteArray) (w : World) (h : DS w p G D n) (hn : n ≤ 1000000) (hs : path.size ≤ 9223372036854775807) :
    Calls Tryz.prog 34 #[.pointer (some ⟨p, 0, none⟩), .string path] w fun e w' => e = .returned (.int .i64 (D.remove path).1) ∧ DSTo w p G.parts w' (D.remove path).2 (n + 2) := by
  have := dremove_callE p n G D path w h.e h.eok (by omega) hs; rw [PDisk.edited_quiet h.quiet] at this; exact h.lift this ((remove_edits _ _).trans h.quiet)
theorem dmkdir_call (p n : Nat) (G : Geo) (D : PDisk) (path : ByteArray) (w : World) (h : DS w p G D n) (hn : n ≤ 1000000) (hs : path.size ≤ 9223372036854775807) :
    Calls Tryz.prog 141 #[.pointer (some ⟨p, 0, none⟩), .string path] w fun e w' => e = .returned (.int .i64 (D.mkdir path).1) ∧ DSTo w p G.parts w' (D.mkdir path).2 (n + 2) := by
  have := dmkdir_callE p n G D path w h.e h.eok (by omega) hs; rw [PDisk.edited_quiet h.quiet] at this; exact h.lift this ((mkdir_edits _ _).trans h.quiet)
end
end
section
open Go.RowKit Go.Op Go.Maps
def besideP (path : ByteArray) : ByteArray := path ++ (⟨#[126]⟩ : ByteArray)
def PDisk.save (D : PDisk) (path text : ByteArray) : Int × PDisk :=
  let r1 := D.write (besideP path) text 384
  if r1.1 ≠ 0 then r1 else
    let r2 := r1.2.sync (besideP path)
    if r2.1 ≠ 0 then r2 else
      let r3 := r2.2.replace (besideP path) path
      if r3.1 ≠ 0 then r3 else r3.2.flush
def PDisk.clear (D : PDisk) (path : ByteArray) : Int × PDisk :=
  let r1 := D.remove path
  if r1.1 = 74 then (0, r1.2) else if r1.1 ≠ 0 then r1 else
    let r2 := r1.2.flush
    if r2.1 = 74 then (0, r2.2) else r2
def PDisk.load (D : PDisk) (path : ByteArray) : (ByteArray × Bool × Int) × PDisk :=
  let r := D.get path
  if r.1.1 = 74 then ((⟨#[]⟩, false, 0), r.2) else if r.1.1 ≠ 0 then ((⟨#[]⟩, false, r.1.1), r.2) else
    if r.1.2.1.kind ≠ 1 then ((⟨#[]⟩, false, 73), r.2) else ((r.1.2.1.data, true, 0), r.2)
theorem beside_size (path : ByteArray) : (besideP path).size = path.size + 1 := by
  unfold besideP; rw [ByteArray.size_append]
  rfl
set_option maxRecDepth 100000 in
theorem beside_any (path : ByteArray) (w : World) (hs : path.size ≤ 1000000) : Calls Tryz.prog 147 #[.string path] w fun e w' => e = .returned (.string (besideP path)) ∧ Off [] w w' := by
  unfold besideP
  go_enter Tryz.func147, Tryz.ntmps147
  go_wp2_with fail
  go_ret
  exact ⟨rfl, Off.refl _ _⟩
set_option maxRecDepth 100000 in
set_option maxHeartbeats 4000000 in
theorem until_any (g n c : Nat) (fs : List (FuncId × Array Value × Array Value)) (P : Nat → World → Prop) (Q : Int → World → Prop) (w : World) (hn : fs.length = n) (hb : n ≤ 1000) (h0 : P 0 w)
    (hcell : ∀ i W, P i W → g < W.heap.size ∧ ∀ (j : Nat) f, fs[j]? = some f → W.cell? ⟨g, j, none⟩ = some (.func (.func f.1) f.2.1 f.2.2))
    (hstep : ∀ (i : Nat) f W, fs[i]? = some f → P i W → Calls Tryz.prog f.1 (f.2.1 ++ f.2.2) W fun e w' => ∃ v : Int, e = .returned (.int .i64 v) ∧ (v = 0 → P (i + 1) w') ∧ (v ≠ 0 → Q v w'))
    (hend : ∀ W, P n W → Q 0 W) (en : ∀ f ∈ fs, ∀ args w, (callFunc f.1 args).run Tryz.prog w = .ok (.enter f.1 args) w) :
    Calls Tryz.prog 148 #[.slice (some ⟨g, 0, none⟩) n c] w fun e w' => ∃ v : Int, e = .returned (.int .i64 v) ∧ Q v w' := by
  have HN := Lib.hid hn; have HC := Lib.hid hcell; have HST := Lib.hid hstep; have HE := Lib.hid hend; have HEN := Lib.hid en; have H0 := Lib.hid h0; clear hn hcell hstep hend en h0
  go_enter Tryz.func148, Tryz.ntmps148
  go_wp2_with fail
  go_loopw [8] (fun x wr => ∃ i : Nat, x = .int .i64 i ∧ i ≤ n ∧ Hid (P i wr)) (fun x _ => n - (intOf x).toNat)
  case atStart => exact ⟨0, rfl, by omega, H0⟩
  case round =>
    obtain ⟨i, rfl, hi, HP⟩ := hrel
    by_cases hlt : i < n
    · have hil : i < fs.length := by rw [HN.out]; exact hlt
      obtain ⟨f, hf⟩ : ∃ f, fs[i]? = some f := ⟨_, List.getElem?_eq_getElem hil⟩
      obtain ⟨hg, hcs⟩ := HC.out i wr HP.out; have hc := hcs i f hf; have en := HEN.out f (List.mem_of_getElem? hf); have HS := Lib.hid (HST.out i f wr hf HP.out); obtain ⟨fn, bd, cp⟩ := f; have hilt : (i : Int) < n := by omega
      dsimp only at hc en HS
      clear hf hcs
      go_wp2_with fail
      refine HS.out.mono ?_
      rintro e w2 ⟨v, rfl, hz, hnz⟩
      by_cases hv : v = 0
      · subst hv
        have HP2 := Lib.hid (hz rfl); clear hz hnz hc en
        go_wp2_with fail
        exact ⟨⟨i + 1, by congr 1, by omega, HP2⟩, by simp only [intOf]; omega⟩
      have HQ := Lib.hid (hnz hv); have hne : (v == 0) = false := beq_eq_false_iff_ne.2 hv
      clear hz hnz hv hc en
      go_wp2_with fail
      go_ret
      exact ⟨v, rfl, HQ.out⟩
    obtain rfl : i = n := by omega
    go_wp2_with fail
    go_ret
    exact ⟨0, rfl, HE.out _ HP.out⟩
section
variable (p n gd gb gt : Nat) (G : Geo) (D : PDisk) (W : World)
set_option maxRecDepth 100000 in
theorem save1_any (b text : ByteArray) (h : DS W p G D n) (hn : n ≤ 1000000) (hs : b.size ≤ 1000000) (hd : Blk W gd 25 #[.pointer (some ⟨p, 0, none⟩)]) (hb : Blk W gb 9 #[.string b]) (ht : Blk W gt 9 #[.string text]) :
    Calls Tryz.prog 149 #[.pointer (some ⟨gd, 0, none⟩), .pointer (some ⟨gb, 0, none⟩), .pointer (some ⟨gt, 0, none⟩)] W fun e w' => e = .returned (.int .i64 (D.write b text 384).1) ∧ DSTo W p G.parts w' (D.write b text 384).2 (n + 2) := by
  have HC := Lib.hid (dwrite_call p n G D b text 384 W h hn (by omega)); have hc1 := hd.cell; have hc2 := hb.cell; have hc3 := ht.cell; have hl1 := hd.lt; have hl2 := hb.lt; have hl3 := ht.lt; clear h hd hb ht
  go_enter Tryz.func149, Tryz.ntmps149
  go_wp2_with fail
  refine HC.out.mono ?_
  rintro e w2 ⟨rfl, hT⟩; have HT := Lib.hid hT; clear hT
  go_wp2_with fail
  go_ret
  exact ⟨rfl, HT.out⟩
set_option maxRecDepth 100000 in
theorem save2_any (b : ByteArray) (h : DS W p G D n) (hn : n ≤ 1000000) (hs : b.size ≤ 1000000) (hd : Blk W gd 25 #[.pointer (some ⟨p, 0, none⟩)]) (hb : Blk W gb 9 #[.string b]) :
    Calls Tryz.prog 150 #[.pointer (some ⟨gd, 0, none⟩), .pointer (some ⟨gb, 0, none⟩)] W fun e w' => e = .returned (.int .i64 (D.sync b).1) ∧ DSTo W p G.parts w' (D.sync b).2 (n + 2) := by
  have HC := Lib.hid (dsync_call p n G D b W h hn (by omega)); have hc1 := hd.cell; have hc2 := hb.cell; have hl1 := hd.lt; have hl2 := hb.lt; clear h hd hb
  go_enter Tryz.func150, Tryz.ntmps150
  go_wp2_with fail
  refine HC.out.mono ?_
  rintro e w2 ⟨rfl, hT⟩; have HT := Lib.hid hT; clear hT
  go_wp2_with fail
  go_ret
  exact ⟨rfl, HT.out⟩
set_option maxRecDepth 100000 in
theorem save3_any (b path : ByteArray) (h : DS W p G D n) (hn : n ≤ 1000000) (hs : b.size ≤ 1000000) (hp : path.size ≤ 1000000) (hd : Blk W gd 25 #[.pointer (some ⟨p, 0, none⟩)]) (hb : Blk W gb 9 #[.string b]) (ht : Blk W gt 9 #[.string path]) :
    Calls Tryz.prog 151 #[.pointer (some ⟨gd, 0, none⟩), .pointer (some ⟨gb, 0, none⟩), .pointer (some ⟨gt, 0, none⟩)] W fun e w' => e = .returned (.int .i64 (D.replace b path).1) ∧ DSTo W p G.parts w' (D.replace b path).2 (n + 2) := by
  have HC := Lib.hid (dreplace_call p n G D b path W h hn (by omega) (by omega)); have hc1 := hd.cell; have hc2 := hb.cell; have hc3 := ht.cell; have hl1 := hd.lt; have hl2 := hb.lt; have hl3 := ht.lt; clear h hd hb ht
  go_enter Tryz.func151, Tryz.ntmps151
  go_wp2_with fail
  refine HC.out.mono ?_
  rintro e w2 ⟨rfl, hT⟩; have HT := Lib.hid hT; clear hT
  go_wp2_with fail
  go_ret
  exact ⟨rfl, HT.out⟩
set_option maxRecDepth 100000 in
theorem clear1_any (path : ByteArray) (h : DS W p G D n) (hn : n ≤ 1000000) (hs : path.size ≤ 1000000) (hd : Blk W gd 25 #[.pointer (some ⟨p, 0, none⟩)]) (hb : Blk W gb 9 #[.string path]) :
    Calls Tryz.prog 156 #[.pointer (some ⟨gd, 0, none⟩), .pointer (some ⟨gb, 0, none⟩)] W fun e w' => e = .returned (.int .i64 (D.remove path).1) ∧ DSTo W p G.parts w' (D.remove path).2 (n + 2) := by
  have HC := Lib.hid (dremove_call p n G D path W h hn (by omega)); have hc1 := hd.cell; have hc2 := hb.cell; have hl1 := hd.lt; have hl2 := hb.lt; clear h hd hb
  go_enter Tryz.func156, Tryz.ntmps156
  go_wp2_with fail
  refine HC.out.mono ?_
  rintro e w2 ⟨rfl, hT⟩; have HT := Lib.hid hT; clear hT
  go_wp2_with fail
  go_ret
  exact ⟨rfl, HT.out⟩
end
theorem EN1 : ∀ args w, (callFunc 149 args).run Tryz.prog w = .ok (.enter 149 args) w := enters_of Tryz.func149 (by kernel_rfl) rfl
theorem EN2 : ∀ args w, (callFunc 150 args).run Tryz.prog w = .ok (.enter 150 args) w := enters_of Tryz.func150 (by kernel_rfl) rfl
theorem EN3 : ∀ args w, (callFunc 151 args).run Tryz.prog w = .ok (.enter 151 args) w := enters_of Tryz.func151 (by kernel_rfl) rfl
theorem ENF : ∀ args w, (callFunc 38 args).run Tryz.prog w = .ok (.enter 38 args) w := enters_of Tryz.func38 (by kernel_rfl) rfl
theorem ENC1 : ∀ args w, (callFunc 156 args).run Tryz.prog w = .ok (.enter 156 args) w := enters_of Tryz.func156 (by kernel_rfl) rfl
theorem DSTo.keep {w w' : World} {p n : Nat} {L : List Nat} {D : PDisk} (h : DSTo w p L w' D n) {g : Nat} {t : TypeId} {cs : Array Value} (hB : Blk w g t cs) (hg : g ∉ p :: L) : Blk w' g t cs := by
  obtain ⟨_, _, ho, _⟩ := h; exact hB.off ho hg
def SaveAt (Wb : World) (p n : Nat) (L : List Nat) (D : PDisk) (b path text : ByteArray) : Nat → World → Prop
  | 0, W => DSTo Wb p L W D n
  | 1, W => (D.write b text 384).1 = 0 ∧ DSTo Wb p L W (D.write b text 384).2 (n + 2)
  | 2, W => (D.write b text 384).1 = 0 ∧ ((D.write b text 384).2.sync b).1 = 0 ∧ DSTo Wb p L W ((D.write b text 384).2.sync b).2 (n + 4)
  | 3, W => (D.write b text 384).1 = 0 ∧ ((D.write b text 384).2.sync b).1 = 0 ∧ (((D.write b text 384).2.sync b).2.replace b path).1 = 0 ∧ DSTo Wb p L W (((D.write b text 384).2.sync b).2.replace b path).2 (n + 6)
  | _, W => (D.write b text 384).1 = 0 ∧ ((D.write b text 384).2.sync b).1 = 0 ∧ (((D.write b text 384).2.sync b).2.replace b path).1 = 0 ∧ (((D.write b text 384).2.sync b).2.replace b path).2.flush.1 = 0 ∧ DSTo Wb p L W (((D.write b text 384).2.sync b).2.replace b path).2.flush.2 (n + 8)
theorem SaveAt.to {Wb W : World} {p n i : Nat} {L : List Nat} {D : PDisk} {b path text : ByteArray} (h : SaveAt Wb p n L D b path text i W) : ∃ D' n', DSTo Wb p L W D' n' := by
  match i, h with
  | 0, h => exact ⟨_, _, h⟩
  | 1, h => exact ⟨_, _, h.2⟩
  | 2, h => exact ⟨_, _, h.2.2⟩
  | 3, h => exact ⟨_, _, h.2.2.2⟩
  | i + 4, h => exact ⟨_, _, h.2.2.2.2⟩
set_option maxRecDepth 100000 in
set_option maxHeartbeats 8000000 in
theorem dsave_call (p n : Nat) (G : Geo) (D : PDisk) (path text : ByteArray) (w : World) (h : DS w p G D n) (hn : n ≤ 100000) (hs : path.size ≤ 100000) :
    Calls Tryz.prog 92 #[.pointer (some ⟨p, 0, none⟩), .string path, .string text] w fun e w' => e = .returned (.int .i64 (D.save path text).1) ∧ DSTo w p G.parts w' (D.save path text).2 (n + 8) := by
  have H := Lib.hid h; obtain ⟨b, hb⟩ : ∃ b, besideP path = b := ⟨_, rfl⟩
  have HBS := Lib.hid (show b.size ≤ 1000000 by rw [← hb, beside_size]; omega); have HBE := Lib.hid (fun (W : World) => beside_any path W (by omega)); rw [hb] at HBE
  have HSV := Lib.hid (show D.save path text = if (D.write b text 384).1 ≠ 0 then D.write b text 384 else if ((D.write b text 384).2.sync b).1 ≠ 0 then (D.write b text 384).2.sync b else if (((D.write b text 384).2.sync b).2.replace b path).1 ≠ 0 then ((D.write b text 384).2.sync b).2.replace b path else (((D.write b text 384).2.sync b).2.replace b path).2.flush by
    unfold PDisk.save; rw [hb])
  clear h hb
  go_enter Tryz.func92, Tryz.ntmps92
  go_wp2_with fail
  have hb1 : Blk (((w.alloc (.cells #[.pointer (some ⟨p, 0, none⟩)] 25)).alloc (.cells #[.string path] 9)).alloc (.cells #[.string text] 9)) w.heap.size 25 #[.pointer (some ⟨p, 0, none⟩)] := ((Blk.new w _ _).alloc _).alloc _
  have hb2 : Blk (((w.alloc (.cells #[.pointer (some ⟨p, 0, none⟩)] 25)).alloc (.cells #[.string path] 9)).alloc (.cells #[.string text] 9)) (w.heap.size + 1) 9 #[.string path] := (Blk.new1 w _ _ _).alloc _
  have hb3 : Blk (((w.alloc (.cells #[.pointer (some ⟨p, 0, none⟩)] 25)).alloc (.cells #[.string path] 9)).alloc (.cells #[.string text] 9)) (w.heap.size + 1 + 1) 9 #[.string text] := Blk.new2 w _ _ _ _
  refine (HBE.out _).mono ?_
  rintro e w1 ⟨rfl, ho1⟩; have HB1 := Lib.hid (hb1.off ho1 (by simp)); have HB2 := Lib.hid (hb2.off ho1 (by simp)); have HB3 := Lib.hid (hb3.off ho1 (by simp)); have HO1 := Lib.hid (show Off [] w w1 from ((((Off.refl _ _).alloc _).alloc _).alloc _).trans_nil ho1); clear hb1 hb2 hb3 ho1
  go_upto_region 2 with fail
  refine code_gen (fun W => Blk W w.heap.size 25 #[.pointer (some ⟨p, 0, none⟩)] ∧ Blk W (w.heap.size + 1) 9 #[.string path] ∧ Blk W (w.heap.size + 1 + 1) 9 #[.string text] ∧ Blk W w1.heap.size 9 #[.string b] ∧ Off [] w W)
    ⟨HB1.out.alloc _, HB2.out.alloc _, HB3.out.alloc _, Blk.new w1 _ _, HO1.out.alloc _⟩ ?_
  rintro Wx ⟨k1, k2, k3, k4, ko⟩
  obtain ⟨Wb, hWb⟩ : ∃ Wb, Wx.alloc (.cells #[.func (.func 149) #[] #[.pointer (some ⟨w.heap.size, 0, none⟩), .pointer (some ⟨w1.heap.size, 0, none⟩), .pointer (some ⟨w.heap.size + 1 + 1, 0, none⟩)], .func (.func 150) #[] #[.pointer (some ⟨w.heap.size, 0, none⟩), .pointer (some ⟨w1.heap.size, 0, none⟩)], .func (.func 151) #[] #[.pointer (some ⟨w.heap.size, 0, none⟩), .pointer (some ⟨w1.heap.size, 0, none⟩), .pointer (some ⟨w.heap.size + 1, 0, none⟩)], .func (.func 38) #[.pointer (some ⟨p, 0, none⟩)] #[]] 85) = Wb := ⟨_, rfl⟩
  have hbs : Blk Wb Wx.heap.size 85 #[.func (.func 149) #[] #[.pointer (some ⟨w.heap.size, 0, none⟩), .pointer (some ⟨w1.heap.size, 0, none⟩), .pointer (some ⟨w.heap.size + 1 + 1, 0, none⟩)], .func (.func 150) #[] #[.pointer (some ⟨w.heap.size, 0, none⟩), .pointer (some ⟨w1.heap.size, 0, none⟩)], .func (.func 151) #[] #[.pointer (some ⟨w.heap.size, 0, none⟩), .pointer (some ⟨w1.heap.size, 0, none⟩), .pointer (some ⟨w.heap.size + 1, 0, none⟩)], .func (.func 38) #[.pointer (some ⟨p, 0, none⟩)] #[]] := by rw [← hWb]; exact Blk.new Wx _ _
  have hob : Off [] Wx Wb := by rw [← hWb]; exact (Off.refl _ _).alloc _
  have hW : Off [] w Wb := ko.trans_nil hob
  have hfar : ∀ g, w.heap.size ≤ g → g ∉ p :: G.parts := fun g hg hm => by
    rcases List.mem_cons.1 hm with rfl | hm
    · have := H.out.m.blk.lt; omega
    have := H.out.m.parts.lt hm; omega
  have hw1 : w.heap.size ≤ w1.heap.size := HO1.out.size
  have hwx : w.heap.size ≤ Wx.heap.size := ko.size
  have k1b := k1.off hob (by simp); have k2b := k2.off hob (by simp); have k3b := k3.off hob (by simp); have k4b := k4.off hob (by simp)
  have HU := Lib.hid (until_any Wx.heap.size 4 4 [(149, #[], #[.pointer (some ⟨w.heap.size, 0, none⟩), .pointer (some ⟨w1.heap.size, 0, none⟩), .pointer (some ⟨w.heap.size + 1 + 1, 0, none⟩)]), (150, #[], #[.pointer (some ⟨w.heap.size, 0, none⟩), .pointer (some ⟨w1.heap.size, 0, none⟩)]), (151, #[], #[.pointer (some ⟨w.heap.size, 0, none⟩), .pointer (some ⟨w1.heap.size, 0, none⟩), .pointer (some ⟨w.heap.size + 1, 0, none⟩)]), (38, #[.pointer (some ⟨p, 0, none⟩)], #[])]
    (SaveAt Wb p n G.parts D b path text) (fun v W => v = (D.save path text).1 ∧ DSTo Wb p G.parts W (D.save path text).2 (n + 8)) Wb rfl (by decide) ((H.out.off hW).refl)
    (fun i W hP => by
      obtain ⟨D', n', hT⟩ := hP.to; have hB := hT.keep hbs (hfar _ hwx); refine ⟨hB.lt, fun j f hj => ?_⟩; rw [hB.cell]
      match j, hj with
      | 0, hj => cases hj; rfl
      | 1, hj => cases hj; rfl
      | 2, hj => cases hj; rfl
      | 3, hj => cases hj; rfl
      | j + 4, hj => simp at hj)
    (fun i f W hf hP => by
      match i, hf, hP with
      | 0, hf, hP =>
        cases hf
        have hT : DSTo Wb p G.parts W D n := hP
        obtain ⟨G1, h1, ho, hp⟩ := hT; refine (save1_any p n _ _ _ G1 D W b text h1 (by omega) HBS.out (k1b.off ho (hfar _ (Nat.le_refl _))) (k4b.off ho (hfar _ hw1)) (k3b.off ho (hfar _ (by omega)))).mono ?_; rintro e w' ⟨rfl, hT2⟩; have hT3 := DSTo.step ho hp hT2; refine ⟨_, rfl, fun hv => ⟨hv, hT3⟩, fun hv => ?_⟩; rw [HSV.out, if_pos hv]; exact ⟨rfl, hT3.le (by omega)⟩
      | 1, hf, hP =>
        cases hf
        obtain ⟨e1, hT⟩ : (D.write b text 384).1 = 0 ∧ DSTo Wb p G.parts W (D.write b text 384).2 (n + 2) := hP
        obtain ⟨G1, h1, ho, hp⟩ := hT; refine (save2_any p (n + 2) _ _ G1 _ W b h1 (by omega) HBS.out (k1b.off ho (hfar _ (Nat.le_refl _))) (k4b.off ho (hfar _ hw1))).mono ?_; rintro e w' ⟨rfl, hT2⟩; have hT3 := DSTo.step ho hp hT2; refine ⟨_, rfl, fun hv => ⟨e1, hv, hT3⟩, fun hv => ?_⟩; rw [HSV.out, if_neg (by rw [e1]; decide), if_pos hv]; exact ⟨rfl, hT3.le (by omega)⟩
      | 2, hf, hP =>
        cases hf
        obtain ⟨e1, e2, hT⟩ : (D.write b text 384).1 = 0 ∧ ((D.write b text 384).2.sync b).1 = 0 ∧ DSTo Wb p G.parts W ((D.write b text 384).2.sync b).2 (n + 4) := hP
        obtain ⟨G1, h1, ho, hp⟩ := hT; refine (save3_any p (n + 4) _ _ _ G1 _ W b path h1 (by omega) HBS.out (by omega) (k1b.off ho (hfar _ (Nat.le_refl _))) (k4b.off ho (hfar _ hw1)) (k2b.off ho (hfar _ (by omega)))).mono ?_; rintro e w' ⟨rfl, hT2⟩; have hT3 := DSTo.step ho hp hT2; refine ⟨_, rfl, fun hv => ⟨e1, e2, hv, hT3⟩, fun hv => ?_⟩
        rw [HSV.out, if_neg (by rw [e1]; decide), if_neg (by rw [e2]; decide), if_pos hv]; exact ⟨rfl, hT3.le (by omega)⟩
      | 3, hf, hP =>
        cases hf
        obtain ⟨e1, e2, e3, hT⟩ : (D.write b text 384).1 = 0 ∧ ((D.write b text 384).2.sync b).1 = 0 ∧ (((D.write b text 384).2.sync b).2.replace b path).1 = 0 ∧ DSTo Wb p G.parts W (((D.write b text 384).2.sync b).2.replace b path).2 (n + 6) := hP
        obtain ⟨G1, h1, ho, hp⟩ := hT; refine (flush_call p (n + 6) G1 _ W h1 (by omega)).mono ?_; rintro e w' ⟨rfl, hT2⟩; have hT3 := DSTo.step ho hp hT2; refine ⟨_, rfl, fun hv => ⟨e1, e2, e3, hv, hT3⟩, fun hv => ?_⟩; rw [HSV.out, if_neg (by rw [e1]; decide), if_neg (by rw [e2]; decide), if_neg (by rw [e3]; decide)]; exact ⟨rfl, hT3⟩
      | i + 4, hf, hP => simp at hf)
    (fun W hP => by
      obtain ⟨e1, e2, e3, e4, hT⟩ : (D.write b text 384).1 = 0 ∧ ((D.write b text 384).2.sync b).1 = 0 ∧ (((D.write b text 384).2.sync b).2.replace b path).1 = 0 ∧ (((D.write b text 384).2.sync b).2.replace b path).2.flush.1 = 0 ∧ DSTo Wb p G.parts W (((D.write b text 384).2.sync b).2.replace b path).2.flush.2 (n + 8) := hP
      rw [HSV.out, if_neg (by rw [e1]; decide), if_neg (by rw [e2]; decide), if_neg (by rw [e3]; decide)]; exact ⟨e4.symm, hT⟩)
    (fun f hf => by
      simp only [List.mem_cons, List.not_mem_nil, or_false] at hf
      rcases hf with rfl | rfl | rfl | rfl
      · exact EN1
      · exact EN2
      · exact EN3
      exact ENF))
  have HW := Lib.hid hW; have hc1 := k1.cell; have hl1 := k1.lt; clear k2 k3 k4 ko hbs hob hW hfar hw1 hwx k1b k2b k3b k4b k1 HSV HBE HB1 HB2 HB3
  go_wp2_with fail
  refine HU.out.mono ?_
  rintro e w2 ⟨v, rfl, rfl, hT⟩; have HT := Lib.hid hT; clear hT hc1 hl1
  go_wp2_with fail
  go_ret
  exact ⟨rfl, DSTo.step (G1 := G) (HW.out.mono (fun _ _ h => by simp at h)) (fun _ hb => .inl hb) HT.out⟩
theorem clear_gone {D : PDisk} {p : ByteArray} (h : (D.remove p).1 = 74) : D.clear p = (0, (D.remove p).2) := by unfold PDisk.clear; dsimp only; rw [if_pos h]
theorem clear_err {D : PDisk} {p : ByteArray} (h : ¬ (D.remove p).1 = 74) (h0 : (D.remove p).1 ≠ 0) : D.clear p = D.remove p := by unfold PDisk.clear; dsimp only; rw [if_neg h, if_pos h0]
theorem clear_on {D : PDisk} {p : ByteArray} (h0 : (D.remove p).1 = 0) : D.clear p = if (D.remove p).2.flush.1 = 74 then (0, (D.remove p).2.flush.2) else (D.remove p).2.flush := by
  unfold PDisk.clear; dsimp only; rw [if_neg (by rw [h0]; decide), if_neg (by rw [h0]; decide)]
def ClearAt (Wb : World) (p n : Nat) (L : List Nat) (D : PDisk) (path : ByteArray) : Nat → World → Prop
  | 0, W => DSTo Wb p L W D n
  | 1, W => (D.remove path).1 = 0 ∧ DSTo Wb p L W (D.remove path).2 (n + 2)
  | _, W => (D.remove path).1 = 0 ∧ (D.remove path).2.flush.1 = 0 ∧ DSTo Wb p L W (D.remove path).2.flush.2 (n + 4)
theorem ClearAt.to {Wb W : World} {p n i : Nat} {L : List Nat} {D : PDisk} {path : ByteArray} (h : ClearAt Wb p n L D path i W) : ∃ D' n', DSTo Wb p L W D' n' := by
  match i, h with
  | 0, h => exact ⟨_, _, h⟩
  | 1, h => exact ⟨_, _, h.2⟩
  | i + 2, h => exact ⟨_, _, h.2.2⟩
set_option maxRecDepth 100000 in
set_option maxHeartbeats 8000000 in
theorem dclear_call (p n : Nat) (G : Geo) (D : PDisk) (path : ByteArray) (w : World) (h : DS w p G D n) (hn : n ≤ 100000) (hs : path.size ≤ 100000) :
    Calls Tryz.prog 101 #[.pointer (some ⟨p, 0, none⟩), .string path] w fun e w' => e = .returned (.int .i64 (D.clear path).1) ∧ DSTo w p G.parts w' (D.clear path).2 (n + 4) := by
  have H := Lib.hid h; clear h
  go_enter Tryz.func101, Tryz.ntmps101
  go_upto_region 1 with fail
  refine code_gen (fun W => Blk W w.heap.size 25 #[.pointer (some ⟨p, 0, none⟩)] ∧ Blk W (w.heap.size + 1) 9 #[.string path] ∧ Off [] w W)
    ⟨(Blk.new w _ _).alloc _, Blk.new1 w _ _ _, ((Off.refl _ _).alloc _).alloc _⟩ ?_
  rintro Wx ⟨k1, k2, ko⟩; obtain ⟨Wb, hWb⟩ : ∃ Wb, Wx.alloc (.cells #[.func (.func 156) #[] #[.pointer (some ⟨w.heap.size, 0, none⟩), .pointer (some ⟨w.heap.size + 1, 0, none⟩)], .func (.func 38) #[.pointer (some ⟨p, 0, none⟩)] #[]] 85) = Wb := ⟨_, rfl⟩
  have hbs : Blk Wb Wx.heap.size 85 #[.func (.func 156) #[] #[.pointer (some ⟨w.heap.size, 0, none⟩), .pointer (some ⟨w.heap.size + 1, 0, none⟩)], .func (.func 38) #[.pointer (some ⟨p, 0, none⟩)] #[]] := by rw [← hWb]; exact Blk.new Wx _ _
  have hob : Off [] Wx Wb := by rw [← hWb]; exact (Off.refl _ _).alloc _
  have hW : Off [] w Wb := ko.trans_nil hob
  have hfar : ∀ g, w.heap.size ≤ g → g ∉ p :: G.parts := fun g hg hm => by
    rcases List.mem_cons.1 hm with rfl | hm
    · have := H.out.m.blk.lt; omega
    have := H.out.m.parts.lt hm; omega
  have hwx : w.heap.size ≤ Wx.heap.size := ko.size
  have k1b := k1.off hob (by simp); have k2b := k2.off hob (by simp); have HU := Lib.hid (until_any Wx.heap.size 2 2 [(156, #[], #[.pointer (some ⟨w.heap.size, 0, none⟩), .pointer (some ⟨w.heap.size + 1, 0, none⟩)]), (38, #[.pointer (some ⟨p, 0, none⟩)], #[])]
    (ClearAt Wb p n G.parts D path) (fun v W => (if v = 74 then 0 else v) = (D.clear path).1 ∧ DSTo Wb p G.parts W (D.clear path).2 (n + 4)) Wb rfl (by decide) ((H.out.off hW).refl)
    (fun i W hP => by
      obtain ⟨D', n', hT⟩ := hP.to; have hB := hT.keep hbs (hfar _ hwx); refine ⟨hB.lt, fun j f hj => ?_⟩; rw [hB.cell]
      match j, hj with
      | 0, hj => cases hj; rfl
      | 1, hj => cases hj; rfl
      | j + 2, hj => simp at hj)
    (fun i f W hf hP => by
      match i, hf, hP with
      | 0, hf, hP =>
        cases hf
        have hT : DSTo Wb p G.parts W D n := hP
        obtain ⟨G1, h1, ho, hp⟩ := hT; refine (clear1_any p n _ _ G1 D W path h1 (by omega) (by omega) (k1b.off ho (hfar _ (Nat.le_refl _))) (k2b.off ho (hfar _ (by omega)))).mono ?_; rintro e w' ⟨rfl, hT2⟩; have hT3 := DSTo.step ho hp hT2; refine ⟨_, rfl, fun hv => ⟨hv, hT3⟩, fun hv => ?_⟩
        by_cases h74 : (D.remove path).1 = 74
        · rw [if_pos h74, clear_gone h74]
          exact ⟨rfl, hT3.le (by omega)⟩
        rw [if_neg h74, clear_err h74 hv]; exact ⟨rfl, hT3.le (by omega)⟩
      | 1, hf, hP =>
        cases hf
        obtain ⟨e1, hT⟩ : (D.remove path).1 = 0 ∧ DSTo Wb p G.parts W (D.remove path).2 (n + 2) := hP
        obtain ⟨G1, h1, ho, hp⟩ := hT; refine (flush_call p (n + 2) G1 _ W h1 (by omega)).mono ?_; rintro e w' ⟨rfl, hT2⟩; have hT3 := DSTo.step ho hp hT2; refine ⟨_, rfl, fun hv => ⟨e1, hv, hT3⟩, fun hv => ?_⟩; rw [clear_on e1]
        by_cases h74 : (D.remove path).2.flush.1 = 74
        · rw [if_pos h74, if_pos h74]
          exact ⟨rfl, hT3⟩
        rw [if_neg h74, if_neg h74]; exact ⟨rfl, hT3⟩
      | i + 2, hf, hP => simp at hf)
    (fun W hP => by
      obtain ⟨e1, e2, hT⟩ : (D.remove path).1 = 0 ∧ (D.remove path).2.flush.1 = 0 ∧ DSTo Wb p G.parts W (D.remove path).2.flush.2 (n + 4) := hP
      rw [clear_on e1, if_neg (by decide), if_neg (by rw [e2]; decide)]; exact ⟨e2.symm, hT⟩)
    (fun f hf => by
      simp only [List.mem_cons, List.not_mem_nil, or_false] at hf
      rcases hf with rfl | rfl
      · exact ENC1
      exact ENF))
  have HW := Lib.hid hW; have hc1 := k1.cell; have hl1 := k1.lt; clear k2 ko hbs hob hW hfar hwx k1b k2b k1
  go_wp2_with fail
  refine HU.out.mono ?_
  rintro e w2 ⟨v, rfl, hv, hT⟩; have HT := Lib.hid hT; have HV := Lib.hid hv; clear hT hc1 hl1 hv
  by_cases h74 : v = 74
  · have hq : (v == 74) = true := by rw [h74]; rfl
    have HV2 := Lib.hid (show (0 : Int) = (D.clear path).1 by rw [← HV.out, if_pos h74]); clear h74
    go_wp2_with fail
    go_ret
    rw [← HV2.out]; exact ⟨rfl, DSTo.step (G1 := G) (HW.out.mono (fun _ _ h => by simp at h)) (fun _ hb => .inl hb) HT.out⟩
  have hq : (v == 74) = false := beq_eq_false_iff_ne.2 h74
  have HV2 := Lib.hid (show v = (D.clear path).1 by rw [← HV.out, if_neg h74]); clear h74
  go_wp2_with fail
  go_ret
  rw [← HV2.out]; exact ⟨rfl, DSTo.step (G1 := G) (HW.out.mono (fun _ _ h => by simp at h)) (fun _ hb => .inl hb) HT.out⟩
set_option maxRecDepth 100000 in
set_option maxHeartbeats 8000000 in
theorem dload_call (p n : Nat) (G : Geo) (D : PDisk) (path : ByteArray) (w : World) (h : DS w p G D n) (hn : n ≤ 100000) (hs : path.size ≤ 100000) :
    Calls Tryz.prog 154 #[.pointer (some ⟨p, 0, none⟩), .string path] w fun e w' => e = .returned (.tuple #[.string (D.load path).1.1, .bool (D.load path).1.2.1, .int .i64 (D.load path).1.2.2]) ∧ DSTo w p G.parts w' (D.load path).2 (n + 1) := by
  have HG := Lib.hid (dget_call p n G D path w h (by omega) (by omega)); obtain ⟨r, hr⟩ : ∃ r, D.get path = r := ⟨_, rfl⟩
  have HL := Lib.hid (show D.load path = if r.1.1 = 74 then ((⟨#[]⟩, false, 0), r.2) else if r.1.1 ≠ 0 then ((⟨#[]⟩, false, r.1.1), r.2) else if r.1.2.1.kind ≠ 1 then ((⟨#[]⟩, false, 73), r.2) else ((r.1.2.1.data, true, 0), r.2) by
    unfold PDisk.load; rw [hr])
  rw [hr] at HG; clear h hr; obtain ⟨⟨er, nd, gi, gs, gt⟩, D2⟩ := r; unfold getVal at HG; dsimp only at HG HL
  go_enter Tryz.func154, Tryz.ntmps154
  go_wp2_with fail
  refine HG.out.mono ?_
  rintro e w2 ⟨rfl, hT⟩; have HT := Lib.hid (show DSTo w p G.parts ((w2.alloc (.cells #[.string nd.path, .int .i64 nd.kind, .string nd.data, .int .i64 nd.mode] 30)).alloc (.cells #[.int .i64 gi, .int .i64 gs, .int .i64 gt] 93)) D2 (n + 1) from (hT.off ((Off.refl _ _).alloc _)).off ((Off.refl _ _).alloc _)); clear hT HG
  by_cases h74 : er = 74
  · have hq : (er == 74) = true := by rw [h74]; rfl
    have HF := Lib.hid (show D.load path = ((⟨#[]⟩, false, 0), D2) by rw [HL.out, if_pos h74]); clear h74 HL
    go_wp2_with fail
    go_ret3
    rw [HF.out]; exact ⟨rfl, HT.out⟩
  have hq : (er == 74) = false := beq_eq_false_iff_ne.2 h74
  by_cases h0 : er = 0
  · have hq0 : (er == 0) = true := by rw [h0]; rfl
    by_cases hk : nd.kind = 1
    · have hqk : (nd.kind == 1) = true := by rw [hk]; rfl
      have HF := Lib.hid (show D.load path = ((nd.data, true, 0), D2) by rw [HL.out, if_neg h74, if_neg (by rw [h0]; decide), if_neg (by rw [hk]; decide)]); clear h74 h0 hk HL
      go_wp2_with fail
      go_ret3
      rw [HF.out]; exact ⟨rfl, HT.out⟩
    have hqk : (nd.kind == 1) = false := beq_eq_false_iff_ne.2 hk
    have HF := Lib.hid (show D.load path = ((⟨#[]⟩, false, 73), D2) by rw [HL.out, if_neg h74, if_neg (by rw [h0]; decide), if_pos hk]); clear h74 h0 hk HL
    go_wp2_with fail
    go_ret3
    rw [HF.out]; exact ⟨rfl, HT.out⟩
  have hq0 : (er == 0) = false := beq_eq_false_iff_ne.2 h0
  have HF := Lib.hid (show D.load path = ((⟨#[]⟩, false, er), D2) by rw [HL.out, if_neg h74, if_pos h0]); clear h74 h0 HL
  go_wp2_with fail
  go_ret3
  rw [HF.out]; exact ⟨rfl, HT.out⟩
end
section
open PDisk
theorem no_ok {p : ByteArray} (h : okPath (str p) = true) : PDisk.no p = (false, 11) := by unfold PDisk.no; rw [h]; rfl
theorem step_quiet {D : PDisk} (c p q : ByteArray) (h : D.off = false) (hf : ∀ f ∈ D.fates, f.at_ ≠ D.trace.length) : D.step c p q = (false, 0, { D with clock := D.clock + 1, trace := D.trace ++ [⟨c, p, q⟩] }) := by
  unfold PDisk.step; rw [h]; have : D.fates.find? (fun f => decide (f.at_ = (D.trace.length : Int))) = none := List.find?_eq_none.2 (fun f hm => by simpa using hf f hm)
  simp [this]
theorem step_crash {D : PDisk} (c p q : ByteArray) (f : FateP) (h : D.off = false) (hf : D.fates = [f]) (ha : f.at_ = D.trace.length) (hw : f.what = 3) : D.step c p q = (false, 75, ({ D with clock := D.clock + 1, trace := D.trace ++ [⟨c, p, q⟩] } : PDisk).crash f) := by
  unfold PDisk.step; rw [h, hf]; simp [ha, hw]
theorem tear_clean {t : Int} {n : Ino} (h : n.dirty = false) : PDisk.tear t n = n := by unfold PDisk.tear; rw [h]; rfl
theorem crash_names (D : PDisk) (f : FateP) : (D.crash f).names = D.safe ∨ (D.crash f).names ∈ D.later := by
  show (match D.later[(min f.keep (D.later.length : Int)).toNat - 1]? with | some l => if 0 < min f.keep (D.later.length : Int) then l else D.safe | none => D.safe) = D.safe ∨ (match D.later[(min f.keep (D.later.length : Int)).toNat - 1]? with | some l => if 0 < min f.keep (D.later.length : Int) then l else D.safe | none => D.safe) ∈ D.later
  split
  · rename_i y hy
    split
    · exact .inr (List.mem_of_getElem? hy)
    exact .inl rfl
  exact .inl rfl
theorem crash_inode (D : PDisk) (f : FateP) (i : Nat) : (D.crash f).inode i = (D.inode i).map (tear f.torn) := by
  unfold PDisk.inode
  split
  · rfl
  show (D.inos.map (tear f.torn))[i - 1]? = _
  rw [List.getElem?_map]
section
variable (old new : ByteArray) (f : FateP)
variable {old new f}
end
end
section
open PDisk
theorem n75 : (75 : Int) ≠ 0 := by decide
def PDisk.tick (D : PDisk) (c p q : ByteArray) : PDisk := { D with clock := D.clock + 1, trace := D.trace ++ [⟨c, p, q⟩] }
theorem call_run {D E : PDisk} {c p q : ByteArray} {full : Bool} {k : PDisk → Bool → Int × PDisk} (h : D.step c p q = (full, 0, E)) : D.call c p q k = k E full := by
  unfold PDisk.call; rw [h]; simp
theorem call_err {D E : PDisk} {c p q : ByteArray} {full : Bool} {e : Int} {k : PDisk → Bool → Int × PDisk} (h : D.step c p q = (full, e, E)) (he : e ≠ 0) : D.call c p q k = (e, E) := by
  unfold PDisk.call; rw [h]; simp [he]
theorem step_free {D : PDisk} (c p q : ByteArray) (h : D.off = false) (hf : D.fates = []) : D.step c p q = (false, 0, D.tick c p q) :=
  step_quiet c p q h (by rw [hf]; intro f hf; cases hf)
section
variable {E : PDisk} {p q data : ByteArray} {mode : Int} {full : Bool}
theorem sync__some {o : Ino} (hp : okPath (str p) = true) (hat : E.at_ p = some o) : E.sync_ p = (0, { E with inos := E.inos.set (lookN E.names p - 1) { o with dirty := false } }) := by
  unfold PDisk.sync_ PDisk.gone; rw [hat, no_ok hp]
  rfl
theorem dir_file {o : Ino} (hne : p ≠ ⟨#[]⟩) (hat : E.at_ p = some o) (hk : o.node.kind = 1) : E.dir p = false := by
  unfold PDisk.dir; rw [decide_eq_false hne, hat]; simp [hk]
theorem dir_none (hne : p ≠ ⟨#[]⟩) (hat : E.at_ p = none) : E.dir p = false := by
  unfold PDisk.dir; rw [decide_eq_false hne, hat]
  rfl
end
theorem at_none_of {D : PDisk} {p : ByteArray} (h : hasN D.names p = false) : D.at_ p = none := by
  unfold PDisk.at_ PDisk.inode; rw [if_pos (lookN_of_not h)]
theorem ok_ne {p : ByteArray} (h : okPath (str p) = true) : p ≠ ⟨#[]⟩ := by
  rintro rfl; exact absurd h (by decide +kernel)
def Clean (D : PDisk) : Prop := ∀ n ∈ D.inos, n.dirty = false
theorem tear_kind (t : Int) (n : Ino) : (tear t n).node.kind = n.node.kind := by unfold tear; split <;> rfl
def wN : ByteArray := ⟨#[87, 114, 105, 116, 101]⟩
def sN : ByteArray := ⟨#[83, 121, 110, 99]⟩
def rN : ByteArray := ⟨#[82, 101, 112, 108, 97, 99, 101]⟩
def fN : ByteArray := ⟨#[70, 108, 117, 115, 104]⟩
def newI (D : PDisk) : Nat := D.inos.length + 1
def nm1 (D : PDisk) (t : ByteArray) : NameL := putN D.names t (newI D)
def nm2 (D : PDisk) (p t : ByteArray) : NameL := delN (putN (nm1 D t) p (newI D)) t
structure Mid (D D' : PDisk) (p t text : ByteArray) (e : Int) : Prop where
  old : ∀ (i : Nat) (n : Ino), D.inos[i]? = some n → D'.inos[i]? = some n
  how : (D'.names = D.names ∧ e ≠ 0) ∨ (D'.names = nm1 D t ∧ e ≠ 0 ∧ ∃ n, D'.inos[D.inos.length]? = some n ∧ n.node.kind = 1) ∨
    (D'.names = nm2 D p t ∧ ∃ n, D'.inos[D.inos.length]? = some n ∧ n.node.kind = 1 ∧ n.node.data = text ∧ n.dirty = false)
section
variable {D : PDisk} {p t text : ByteArray} {f : FateP}
structure W1 (D E : PDisk) (p t text : ByteArray) (d : Bool) : Prop where
  names : E.names = nm1 D t
  safe : E.safe = D.names
  later : E.later = [nm1 D t]
  inos : ∃ tm, E.inos = D.inos ++ [⟨⟨⟨#[]⟩, 1, text, 384⟩, tm, d⟩]
  on : E.off = false
structure W3 (D E : PDisk) (p t text : ByteArray) : Prop where
  names : E.names = nm2 D p t
  safe : E.safe = D.names
  later : E.later = [nm1 D t, nm2 D p t]
  inos : ∃ tm, E.inos = D.inos ++ [⟨⟨⟨#[]⟩, 1, text, 384⟩, tm, false⟩]
  on : E.off = false
end
end
section
open Go.RowKit Go.Op Go.Maps
def Run (w0 w : World) (p : Nat) (D : PDisk) (n : Nat) : Prop := ∃ G, DS w p G D n ∧ Off [] w0 w ∧ w0.heap.size ≤ p ∧ ∀ b ∈ G.parts, w0.heap.size ≤ b
theorem Run.next {w0 w w' : World} {p n' : Nat} {D' : PDisk} {G : Geo} (ho : Off [] w0 w) (hp : w0.heap.size ≤ p) (hb : ∀ b ∈ G.parts, w0.heap.size ≤ b) (k : DSTo w p G.parts w' D' n') : Run w0 w' p D' n' := by
  obtain ⟨G', h1, h2, h3⟩ := k; refine ⟨G', h1, ho.trans h2 (fun x hx hm => ?_), hp, fun b hb' => ?_⟩
  · exfalso
    rcases List.mem_cons.1 hm with rfl | hm
    · omega
    have := hb x hm; omega
  rcases h3 b hb' with h | h
  · exact hb b h
  exact Nat.le_trans ho.size h
theorem Run.since {w0 w : World} {p n : Nat} {D : PDisk} (h : Run w0 w p D n) : Off [] w0 w := by obtain ⟨_, _, h2, _⟩ := h; exact h2
section
variable {w0 w : World} {p n : Nat} {D : PDisk}
end
theorem nmOf_look : ∀ (a : List Node) (i : Nat) (p : ByteArray), lookN (nmOf a i) p ≤ i + a.length ∧ (hasN (nmOf a i) p = true → i + 1 ≤ lookN (nmOf a i) p)
  | [], i, p => ⟨Nat.zero_le _, fun h => by simp [nmOf, hasN] at h⟩
  | n :: a, i, p => by
    obtain ⟨h1, h2⟩ := nmOf_look a (i + 1) p; unfold nmOf lookN
    by_cases e : n.path = p
    · rw [if_pos e]
      exact ⟨by simp only [List.length_cons]; omega, fun _ => Nat.le_refl _⟩
    rw [if_neg e]; refine ⟨by simp only [List.length_cons]; omega, fun h => ?_⟩; have := h2 (by simpa [hasN, e] using h); omega
theorem newD_ok {t : List Node} (hok : okTree t = true) : Ok (newD t) 0 := by
  have hl := okTree_len hok; have hN : NOk (newD t).inos.length (nmOf t 0) := fun x => by
    obtain ⟨h1, h2⟩ := nmOf_look t 0 x; refine ⟨by simp [newD, newD']; omega, fun h => ⟨by have := h2 h; omega, ?_⟩⟩; obtain ⟨n, hn, rfl⟩ := (nmOf_has _ _ _).1 h; exact okTree_small hok hn
  exact ⟨hN, hN, fun l hl => by simp [newD, newD'] at hl, by simp [newD, newD'], by simp [newD, newD']; omega, by simp [newD, newD'], by simp [newD, newD'], by simp [newD, newD'], by simp [newD, newD', nmOf_len]; omega, by simp [newD, nmOf_len]; omega, fun l hl => by simp [newD, newD'] at hl⟩
theorem run_new (fp : Option Addr) (t : List Node) (n c : Nat) (w0 w : World) (hof : Off [] w0 w) (hT : Tabs w0) (hR : Row w fp t) (hn : t.length = n) (hc : n ≤ c) (hok : okTree t = true) (hF : Fits t) :
    Calls Tryz.prog 12 #[.slice fp n c] w fun e w' => ∃ gd, e = .returned (.tuple #[.pointer (some ⟨gd, 0, none⟩), .int .i64 0]) ∧ Run w0 w' gd (newD t) 0 := by
  refine (dnew_ok fp t n c w hR hn hc hok hF (hT.off hof)).mono ?_
  rintro e w' ⟨gd, G, he, hM, hgd, hpl, hsb, ho⟩; have h1 := Nat.le_trans hof.size hgd; have h2 : ∀ b ∈ G.parts, w0.heap.size ≤ b := fun b hb => Nat.le_trans hof.size (hpl b hb)
  exact ⟨gd, he, G, ⟨hM, hsb, newD_ok hok, TabsX.of hT (hof.trans_nil ho) h1 h2, rfl⟩, hof.trans_nil ho, h1, h2⟩
end
section
open Go.RowKit Go.Op Go.Maps
end
section
open PDisk
section
variable {D E : PDisk} {p t text : ByteArray}
theorem load_file {n : Ino} (hp : okPath (str p) = true) (hoff : D.off = false) (hf : D.fates = []) (hat : D.at_ p = some n) (hk : n.node.kind = 1) : D.load p = ((n.node.data, true, 0), D.tick ⟨#[71, 101, 116]⟩ p ⟨#[]⟩) := by
  have hg : D.get p = ((0, { n.node with path := p }, (lookN D.names p : Int), (n.node.data.size : Int), n.time), D.tick ⟨#[71, 101, 116]⟩ p ⟨#[]⟩) := by
    unfold PDisk.get; rw [step_free _ _ _ hoff hf]; simp only [ne_eq, not_true_eq_false, if_false]; unfold PDisk.get_; have h2 : (D.tick ⟨#[71, 101, 116]⟩ p ⟨#[]⟩).at_ p = some n := hat
    rw [if_neg (ok_ne hp), no_ok hp]; unfold PDisk.gone; rw [h2]
    rfl
  unfold PDisk.load; rw [hg]; simp [hk]
theorem load_none (hp : okPath (str p) = true) (hoff : D.off = false) (hf : D.fates = []) (hat : D.at_ p = none) : D.load p = ((⟨#[]⟩, false, 0), D.tick ⟨#[71, 101, 116]⟩ p ⟨#[]⟩) := by
  have hg : D.get p = ((74, ⟨⟨#[]⟩, 0, ⟨#[]⟩, 0⟩, 0, 0, 0), D.tick ⟨#[71, 101, 116]⟩ p ⟨#[]⟩) := by
    unfold PDisk.get; rw [step_free _ _ _ hoff hf]; simp only [ne_eq, not_true_eq_false, if_false]; unfold PDisk.get_; have h2 : (D.tick ⟨#[71, 101, 116]⟩ p ⟨#[]⟩).at_ p = none := hat
    rw [if_neg (ok_ne hp), no_ok hp]; unfold PDisk.gone; rw [h2]
    rfl
  unfold PDisk.load; rw [hg]; simp
theorem get_file {n : Ino} (hp : okPath (str p) = true) (hoff : D.off = false) (hf : D.fates = []) (hat : D.at_ p = some n) : D.get p = ((0, { n.node with path := p }, (lookN D.names p : Int), (n.node.data.size : Int), n.time), D.tick ⟨#[71, 101, 116]⟩ p ⟨#[]⟩) := by
  unfold PDisk.get; rw [step_free _ _ _ hoff hf]; simp only [ne_eq, not_true_eq_false, if_false]; unfold PDisk.get_; have h2 : (D.tick ⟨#[71, 101, 116]⟩ p ⟨#[]⟩).at_ p = some n := hat
  rw [if_neg (ok_ne hp), no_ok hp]; unfold PDisk.gone; rw [h2]
  rfl
end
section
variable {old text : ByteArray} {f : FateP}
end
end
section
open PDisk
theorem clear_none {D : PDisk} {p : ByteArray} (hp : okPath (str p) = true) (hoff : D.off = false) (hf : D.fates = []) (hat : D.at_ p = none) : D.clear p = (0, D.tick ⟨#[82, 101, 109, 111, 118, 101]⟩ p ⟨#[]⟩) := by
  have hr : D.remove p = (74, D.tick ⟨#[82, 101, 109, 111, 118, 101]⟩ p ⟨#[]⟩) := by
    refine (call_run (k := fun E _ => E.remove_ p) (step_free _ p ⟨#[]⟩ hoff hf)).trans ?_
    unfold PDisk.remove_ PDisk.gone; rw [show (D.tick ⟨#[82, 101, 109, 111, 118, 101]⟩ p ⟨#[]⟩).at_ p = none from hat, no_ok hp]
    rfl
  rw [clear_gone (by rw [hr]), hr]
section
variable {a b : ByteArray} {f : FateP}
end
end
section
open Go.RowKit Go.Op Go.Maps
section
variable {w0 w : World} {p n : Nat} {D : PDisk}
end
end
end Go.Proofs.YtoicjadioiomkaaGreatDoor
