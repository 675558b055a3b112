/- Texts of this claim, one behind the other: DBoot Quiet Store WholeLaw SaveLaw DRun DAwake StoreLaw StoreLaw2 SAwake. Conditions: what each lemma states. -/
import Derived.Test.YthciejabapdbgaaGreatDoorKg
import Derived.Test.YthciejabapdbgaaGreatDoorKc
import Derived.Test.YthciejabapdbgaaGreatDoorKd
import Derived.Lib.SliceRun
import Derived.KernelRfl
set_option linter.unusedVariables false
set_option linter.unusedSimpArgs false
namespace Go.Proofs.YthciejabapdbgaaGreatDoor
section
open Go.RowKit Go.Op Go.Maps
def FRow (w : World) (p : Option Addr) (fs : List FateP) : Prop :=
  fs ≠ [] → ∃ a, p = some a ∧ a.block < w.heap.size ∧ ∀ (j : Nat) (u : Value), (fs.flatMap fateCells)[j]? = some u → w.cell? (a.add j) = some u
theorem FRow.off {w w' : World} {p : Option Addr} {fs : List FateP} (h : FRow w p fs) (ho : Off [] w w') : FRow w' p fs := fun hne => by
  obtain ⟨a, rfl, hb, hc⟩ := h hne; exact ⟨a, rfl, Nat.lt_of_lt_of_le hb ho.size, fun j u hj => (ho.cell (p := a.add j) (by rw [add_block]; exact hb) (by simp)).trans (hc j u hj)⟩
theorem FRow.nil (w : World) (p : Option Addr) : FRow w p [] := fun h => absurd rfl h
theorem fate_len : ∀ (fs : List FateP), (fs.flatMap fateCells).length = fs.length * 4
  | [] => rfl
  | f :: fs => by rw [List.flatMap_cons, List.length_append, fate_len fs]; simp [fateCells]; omega
theorem fate_at : ∀ (fs : List FateP) (j : Nat) (f : FateP), fs[j]? = some f → ∀ (i : Nat) (u : Value), (fateCells f)[i]? = some u → (fs.flatMap fateCells)[j * 4 + i]? = some u
  | [], j, f, h, _, _, _ => by simp at h
  | x :: fs, 0, f, h, i, u, hu => by
    simp at h
    subst h; rw [List.flatMap_cons, Nat.zero_mul, Nat.zero_add, List.getElem?_append_left (List.getElem?_eq_some_iff.1 hu).1]; exact hu
  | x :: fs, j + 1, f, h, i, u, hu => by
    rw [List.flatMap_cons, List.getElem?_append_right (by simp [fateCells]; omega)]; rw [show (j + 1) * 4 + i - (fateCells x).length = j * 4 + i by simp [fateCells]; omega]; exact fate_at fs j f (by simpa using h) i u hu
theorem fate_one (fs : List FateP) : ∀ u ∈ fs.flatMap fateCells, u.oneCell' = true := by
  intro u hu
  obtain ⟨n, _, hn⟩ := List.mem_flatMap.1 hu; simp [fateCells] at hn
  rcases hn with rfl | rfl | rfl | rfl <;> rfl
theorem infoFate : (Tryz.prog.info? 96).map (fun i => (i.zero, i.size, i.bytes)) = some (some (.agg #[.int .i64 0, .int .i64 0, .int .i64 0, .int .i64 0]), 4, 32) := by kernel_rfl
set_option maxRecDepth 100000 in
set_option maxHeartbeats 4000000 in
theorem fclone_any (p : Option Addr) (fs : List FateP) (n cap : Nat) (w : World) (hR : FRow w p fs) (hn : fs.length = n) (hbig : n ≤ 4398046511103) (hpn : p = none → fs = []) :
    Calls Tryz.prog 65 #[.slice p n cap] w fun e w' => ∃ v, e = .returned v ∧ w'.ownsRow w.heap.size 96 4 v n (fs.flatMap fateCells) ∧ Off [] w w' := by
  obtain ⟨i0, hi0, hz0, hz1, hz2⟩ := info_parts infoFate; have q22 : ∀ (w : World) (a : Option Addr) (n c n' c' : Nat), (binOp .eql 23 (.slice a n c) (.slice none n' c')).run Tryz.prog w = .ok (.bool a.isNone) w := fun w a n c n' c' => Lib.run_eql_slice_nil w _ _ a n c n' c' Tryz.underlying23
  cases p with
  | none =>
    obtain rfl := hpn rfl; obtain rfl : 0 = n := hn
    clear hR hpn
    go_enter Tryz.func65, Tryz.ntmps65
    go_wp2_with fail
    go_ret
    exact ⟨_, rfl, ⟨rfl, .inl ⟨rfl, rfl⟩⟩, Off.refl _ _⟩
  | some a =>
    have HC := Lib.hid (show ∀ (j : Nat) (u : Value), (fs.flatMap fateCells)[j]? = some u → w.cell? (a.add j) = some u from fun j u hj => by
      obtain ⟨a', e, _, h⟩ := hR (fun e => by subst e; simp at hj)
      cases e
      exact h j u hj)
    have HO := Lib.hid (fate_one fs); have HCL := Lib.hid (show (fs.flatMap fateCells).length = n * 4 by rw [fate_len, hn]); clear hR hpn hn
    go_enter Tryz.func65, Tryz.ntmps65
    go_wp2_with (at_builtin; refine wpList_append_own _ rfl _ _ 23 rfl w.heap.size 96 i0 _ 4 32 Tryz.underlying23 hi0 hz0 hz1 hz2 rfl (by decide) _ _ _ rfl (World.ownsRow_made w #[] 0 (Nat.le_refl _) (Nat.zero_le _) rfl) a n cap (fs.flatMap fateCells) rfl HCL.out ?qc2 HO.out ?qc4 ?qc5 ?qc6 ?_)
    case qc2 =>
      intro j u hj
      exact Lib.cell?_alloc_some _ (HC.out j u hj)
    case qc4 => unfold maxLen; omega
    case qc5 => omega
    case qc6 => simp
    intro v' w1 hown hgrow hnil
    go_wp2_with fail
    go_ret
    refine ⟨v', rfl, by simpa using hown, ?_⟩
    exact ((Off.refl _ w).alloc _).grown hgrow (by intro k hk; simp [Value.ownBlock] at hk; omega)
theorem fatesAt_own {w : World} {base : Nat} {v : Value} {fs : List FateP} (h : w.ownsRow base 96 4 v fs.length (fs.flatMap fateCells)) : FatesAt w v v.ownBlock.toList fs ∧ ∀ b ∈ v.ownBlock.toList, base ≤ b ∧ ∃ cs, Blk w b 96 cs := by
  rcases h.2 with ⟨rfl, h1⟩ | ⟨g, cap, cur, rfl, hb, hh, hc, _, hsz, ht⟩
  · refine ⟨⟨none, 0, by rw [h1], by omega, fun hne => absurd (List.length_eq_zero_iff.1 h1) hne⟩, fun b hb => by simp [Value.ownBlock] at hb⟩
  have hB : Blk w g 96 cur := hh
  refine ⟨⟨some ⟨g, 0, none⟩, cap, rfl, hc, fun _ => ⟨g, rfl, by simp [Value.ownBlock], hB.lt, fun j f hj i u hu => ?_⟩⟩, fun b hb' => ?_⟩
  · rw [hB.cell]
    have h3 := fate_at fs j f hj i u hu; rw [← ht, List.getElem?_take] at h3
    split at h3
    · simpa using h3
    cases h3
  simp [Value.ownBlock] at hb'
  subst hb'; exact ⟨hb, _, hB⟩
def ArgV (w : World) (u : Value) (t : List Node) : Prop := ∃ q d, u = .slice q t.length d ∧ t.length ≤ d ∧ d ≤ maxLen ∧ (q = none → t = []) ∧ Fits t ∧ Row w q t
structure EditIn (w : World) (a : Addr) (e : EditP) (u : Value) : Prop where
  at_ : w.cell? a = some (.int .i64 e.at_)
  path : w.cell? ⟨a.block, a.off + 1, none⟩ = some (.string e.path)
  value : w.cell? ⟨a.block, a.off + 2, none⟩ = some u
def ERow (w : World) (p : Option Addr) (es : List EditP) : Prop :=
  es ≠ [] → ∃ a, p = some a ∧ a.block < w.heap.size ∧ ∀ (i : Nat) (e : EditP), es[i]? = some e → ∃ u, ArgV w u e.value ∧ EditIn w (a.add (i * 3)) e u
theorem ArgV.off {w w' : World} {u : Value} {t : List Node} (h : ArgV w u t) (ho : Off [] w w') : ArgV w' u t := by
  obtain ⟨q, d, h1, h2, h3, h4, h5, h6⟩ := h; exact ⟨q, d, h1, h2, h3, h4, h5, h6.off ho⟩
theorem ERow.off {w w' : World} {p : Option Addr} {es : List EditP} (h : ERow w p es) (ho : Off [] w w') : ERow w' p es := fun hne => by
  obtain ⟨a, rfl, hb, hn⟩ := h hne; refine ⟨a, rfl, Nat.lt_of_lt_of_le hb ho.size, fun i e hi => ?_⟩; obtain ⟨u, hu, h3⟩ := hn i e hi; have hbl : (a.add (i * 3)).block < w.heap.size := by rw [add_block]; exact hb
  exact ⟨u, hu.off ho, ⟨(ho.cell hbl (by simp)).trans h3.at_, (ho.cell (p := ⟨(a.add (i * 3)).block, (a.add (i * 3)).off + 1, none⟩) hbl (by simp)).trans h3.path, (ho.cell (p := ⟨(a.add (i * 3)).block, (a.add (i * 3)).off + 2, none⟩) hbl (by simp)).trans h3.value⟩⟩
theorem ERow.nil (w : World) (p : Option Addr) : ERow w p [] := fun h => absurd rfl h
def flatE : List EditP → List Value → List Value
  | e :: es, u :: us => editCells e u ++ flatE es us
  | _, _ => []
theorem flatE_snoc : ∀ (es : List EditP) (us : List Value) (e : EditP) (u : Value), es[us.length]? = some e → flatE es (us ++ [u]) = flatE es us ++ editCells e u
  | [], us, e, u, h => by simp at h
  | x :: es, [], e, u, h => by
    simp at h
    subst h
    show editCells x u ++ flatE es [] = _
    have : flatE es [] = [] := by cases es <;> rfl
    rw [this]
    show _ = flatE (x :: es) [] ++ _
    show _ = [] ++ _
    simp
  | x :: es, v :: us, e, u, h => by
    show editCells x v ++ flatE es (us ++ [u]) = (editCells x v ++ flatE es us) ++ editCells e u
    rw [flatE_snoc es us e u (by simpa using h), List.append_assoc]
theorem flatE_at : ∀ (es : List EditP) (us : List Value) (j : Nat) (e : EditP) (u : Value), es[j]? = some e → us[j]? = some u → ∀ (i : Nat) (x : Value), (editCells e u)[i]? = some x → (flatE es us)[j * 3 + i]? = some x
  | [], us, j, e, u, h, _, _, _, _ => by simp at h
  | x :: es, [], j, e, u, _, h, _, _, _ => by simp at h
  | y :: es, v :: us, 0, e, u, h1, h2, i, x, hx => by
    simp at h1 h2
    subst h1; subst h2
    show (editCells y v ++ flatE es us)[0 * 3 + i]? = _
    rw [Nat.zero_mul, Nat.zero_add, List.getElem?_append_left (List.getElem?_eq_some_iff.1 hx).1]; exact hx
  | y :: es, v :: us, j + 1, e, u, h1, h2, i, x, hx => by
    show (editCells y v ++ flatE es us)[(j + 1) * 3 + i]? = _
    rw [List.getElem?_append_right (by simp [editCells]; omega)]; rw [show (j + 1) * 3 + i - (editCells y v).length = j * 3 + i by simp [editCells]; omega]; exact flatE_at es us j e u (by simpa using h1) (by simpa using h2) i x hx
theorem infoEdit : (Tryz.prog.info? 36).map (fun i => (i.zero, i.size, i.bytes)) = some (some (.agg #[.int .i64 0, .string ⟨#[]⟩, .slice none 0 0]), 3, 48) := by kernel_rfl
structure EMid (W wr : World) (p : Nat) (cs : Array Value) (es : List EditP) (us : List Value) (v : Value) : Prop where
  blk : Blk wr p 126 (cs.setIfInBounds 9 v)
  off : Off [p] W wr
  row : wr.ownsRow W.heap.size 36 3 v us.length (flatE es us)
  vals : ∀ (j : Nat) (e : EditP) (u : Value), es[j]? = some e → us[j]? = some u → wr.ownsRow W.heap.size 105 4 u e.value.length (cellsOf e.value)
theorem editsAt_own {W wr : World} {p : Nat} {cs : Array Value} {es : List EditP} {us : List Value} {v : Value} (h : EMid W wr p cs es us v) (hl : us.length = es.length) (hm : es.length ≤ maxLen) (hF : ∀ e ∈ es, Fits e.value) (fb : List Nat)
    (hb : (∀ b ∈ v.ownBlock.toList, b ∈ fb) ∧ ∀ u ∈ us, ∀ b ∈ u.ownBlock.toList, b ∈ fb) : EditsAt wr v fb es := by
  have hr := h.row; rw [hl] at hr
  rcases hr.2 with ⟨rfl, h1⟩ | ⟨g, cap, cur, rfl, hbb, hh, hc, _, hsz, ht⟩
  · exact ⟨none, 0, by rw [h1], by omega, hm, fun hne => absurd (List.length_eq_zero_iff.1 h1) hne⟩
  have hB : Blk wr g 36 cur := hh
  refine ⟨some ⟨g, 0, none⟩, cap, rfl, hc, hm, fun _ => ⟨g, rfl, hb.1 g (by simp [Value.ownBlock]), hB.lt, fun j e hj => ?_⟩⟩
  have hjl : j < us.length := by rw [hl]; exact (List.getElem?_eq_some_iff.1 hj).1
  have huj := List.getElem?_eq_getElem hjl; have hv := h.vals j e _ hj huj; obtain ⟨q, d, he, hrow, hd, hq, hqb⟩ := own_row hv; obtain ⟨q', d', he', -, -, hdm, -⟩ := Sl.own hv; rw [he] at he'; obtain ⟨rfl, rfl⟩ : q = q' ∧ d = d' := by simpa using he'
  refine ⟨us[j], ⟨q, d, he, hd, hdm, hq, hF e (List.mem_of_getElem? hj), fun a ha => ?_, hrow⟩, fun i x hi => ?_⟩
  · refine hb.2 us[j] (List.getElem_mem hjl) a.block ?_
    rcases hv.2 with ⟨e0, _⟩ | ⟨g0, c0, cu0, e0, _⟩
    · rw [e0] at he; injection he with h1 h2 h3; rw [← h1] at ha; cases ha
    rw [e0] at he ⊢; injection he with h1 h2 h3
    rw [← h1] at ha
    cases ha
    simp [Value.ownBlock]
  rw [hB.cell]; have h3 := flatE_at es us j e _ hj huj i x hi; rw [← ht, List.getElem?_take] at h3
  split at h3
  · simpa using h3
  cases h3
set_option maxRecDepth 100000 in
set_option maxHeartbeats 8000000 in
theorem dboot_callE0 (p n : Nat) (G : Geo) (D : PDisk) (fp : Option Addr) (fs : List FateP) (nf c : Nat) (w : World) (h : DSE w p G D n) (hF : FRow w fp fs) (hn : fs.length = nf) (hb : nf ≤ 4398046511103) (hpn : fp = none → fs = []) :
    Calls Tryz.prog 12 #[.pointer (some ⟨p, 0, none⟩), .slice fp nf c, .slice none 0 0] w fun e w' => e = .returned (.tuple #[]) ∧ DSETo w p G.parts w' (D.boot fs) n := by
  have H := Lib.hid h; have HCL := Lib.hid (fclone_any fp fs nf c w hF hn (by omega) hpn); have HN := Lib.hid hn; have hc0 := h.m.blk.cell; unfold diskCells at hc0; clear h hF hn hpn
  go_enter Tryz.func12, Tryz.ntmps12
  go_wp2_with fail
  refine HCL.out.mono ?_
  rintro e w1 ⟨v0, rfl, hown, ho⟩; obtain ⟨pv, cv, rfl⟩ := row_len hown; have H1 := Lib.hid (H.out.off ho); have HOWN := Lib.hid hown; have HO := Lib.hid ho; have hc := H1.out.m.blk.cell; have hf := H1.out.m.blk.frozen; have hl := H1.out.m.blk.lt; unfold diskCells at hc; clear hown ho hc0
  go_upto_region 2 with fail
  refine code_gen (fun W => Blk W p 126 (((((diskCells G D).setIfInBounds 5 (.bool false)).setIfInBounds 7 (.slice none 0 0)).setIfInBounds 8 (.slice pv nf cv)).setIfInBounds 9 (.slice none 0 0)) ∧ Off [p] w1 W)
    ⟨(((H1.out.m.blk.set_ 5 _).set_ 7 _).set_ 8 _).set_ 9 _, ((((Off.refl [p] w1).setCell (.inr (by simp)) _).setCell (.inr (by simp)) _).setCell (.inr (by simp)) _).setCell (.inr (by simp)) _⟩ ?_
  rintro W ⟨hB, hoW⟩; have HB := Lib.hid hB; have HOW := Lib.hid hoW; clear hc hf hl hB hoW
  go_wp2_with fail
  go_loopw [26] (fun x wr => x = .int .i64 0 ∧ wr = W) (fun _ _ => 0)
  case atStart => exact ⟨rfl, rfl⟩
  case round =>
    obtain ⟨rfl, rfl⟩ := hrel
    go_wp2_with fail
    refine bodyPost_end (results_none rfl _ _ _) rfl ?_
    refine ⟨rfl, ?_⟩
    have hown := HOWN.out; generalize (Value.slice pv nf cv) = v at hown HB; rw [← HN.out] at hown; obtain ⟨hFA, hFB⟩ := fatesAt_own hown; have hpl : ∀ b ∈ v.ownBlock.toList, b ≠ p := fun b hb e => by
      have := (hFB b hb).1; have := H.out.m.blk.lt; omega
    have hPW := H1.out.m.parts.off HOW.out (fun b hb h => by simp at h; subst h; exact H1.out.m.far hb); refine H.out.to (Off.refl _ _) ⟨{ G with tv := .slice none 0 0, fv := v, fb := v.ownBlock.toList }, ⟨?_, ?_⟩, ?_, ?_, H.out.sb⟩ (PDisk.boot_ok H.out.ok fs (by rw [HN.out]; omega))
    · have := HB.out
      unfold diskCells at this ⊢
      simpa [PDisk.boot] using this
    · exact {
        names := hPW.names
        safe := hPW.safe
        later := hPW.later
        lbl := hPW.lbl
        laters := hPW.laters
        ino := hPW.ino
        qsl := hPW.qsl
        inos := hPW.inos
        nodup := hPW.nodup
        trace := World.ownsRow_nil _ 0 _ 3
        fates := ⟨hFA.off HOW.out (fun b hb h => by simp at h; exact hpl b hb h), EditsAt.nil _ _⟩
        fbl := fun g hg => by
          obtain ⟨_, cs, hB⟩ := hFB g hg; exact ⟨_, cs, hB.off HOW.out (fun h => by simp at h; exact hpl g hg h), .inl rfl⟩
        apart := hPW.apart }
    · exact (HO.out.mono (fun _ _ h => by simp at h)).trans HOW.out (fun x _ h => by simp at h; subst h; exact List.mem_cons_self ..)
    intro b hb
    rcases List.mem_cons.1 hb with rfl | hb
    · exact .inl (List.mem_cons_self ..)
    rcases mem_rest.1 hb with h | h | h | h | h | h | h
    · exact .inl (List.mem_cons_of_mem _ (mem_rest.2 (.inl h)))
    · exact .inl (List.mem_cons_of_mem _ (mem_rest.2 (.inr (.inl h))))
    · exact .inl (List.mem_cons_of_mem _ (mem_rest.2 (.inr (.inr (.inl h)))))
    · exact .inl (List.mem_cons_of_mem _ (mem_rest.2 (.inr (.inr (.inr (.inl h))))))
    · exact .inl (List.mem_cons_of_mem _ (mem_rest.2 (.inr (.inr (.inr (.inr (.inl h)))))))
    · simp [Value.ownBlock] at h
    exact .inr (hFB b h).1
theorem EMid.keep {W wr w' : World} {p : Nat} {cs : Array Value} {es : List EditP} {us : List Value} {v : Value} (h : EMid W wr p cs es us v) (ho : Off [] wr w') : EMid W w' p cs es us v :=
  ⟨h.blk.off ho (by simp), h.off.trans ho (fun _ _ h => by simp at h), own_offk h.row ho (by simp), fun j e u h1 h2 => own_offk (h.vals j e u h1 h2) ho (by simp)⟩
theorem EMid.snoc {W W5 w7 : World} {p gg cap : Nat} {cs : Array Value} {es : List EditP} {us : List Value} {v u : Value} {e : EditP} {o : Obj} (h : EMid W W5 p cs es us v) (hj : es[us.length]? = some e) (hu : W5.ownsRow W.heap.size 105 4 u e.value.length (cellsOf e.value)) (hpW : p < W.heap.size)
    (hown : w7.ownsRow W.heap.size 36 3 (.slice (some ⟨gg, 0, none⟩) (us.length + 1) cap) (us.length + 1) (flatE es us ++ editCells e u)) (hg : (W5.alloc o).drew.grownBy w7 v.ownBlock) :
    EMid W (w7.setCell ⟨p, 9, none⟩ (.slice (some ⟨gg, 0, none⟩) (us.length + 1) cap)) p cs es (us ++ [u]) (.slice (some ⟨gg, 0, none⟩) (us.length + 1) cap) := by
  have h5 := h.keep (((Off.refl [] W5).alloc o).drew); have hgo : Off v.ownBlock.toList (W5.alloc o).drew w7 := (Off.refl _ _).grown hg (fun x hx => .inr (by rw [hx]; simp))
  have hvb := fun b hb => own_made_ h5.row b hb
  have hvt := own_blks h5.row; have hB7 := h5.blk.off hgo (fun hm => by have := (hvb p hm).1; omega); have hS : Off [p] w7 (w7.setCell ⟨p, 9, none⟩ (.slice (some ⟨gg, 0, none⟩) (us.length + 1) cap)) := (Off.refl [p] w7).setCell (.inr (by simp)) _
  refine ⟨by have := hB7.set_ 9 (.slice (some ⟨gg, 0, none⟩) (us.length + 1) cap); simpa using this, ?_, ?_, fun j e' u' h1 h2 => ?_⟩
  · refine (h5.off.trans hgo (fun x hx hm => ?_)).trans hS (fun _ _ h => h)
    have := (hvb x hm).1; omega
  · rw [List.length_append, flatE_snoc es us e u hj]
    refine own_offk hown hS (fun b hb hm => ?_)
    have := (own_made_ hown b hb).1; simp at hm; omega
  have hrow : (W5.alloc o).drew.ownsRow W.heap.size 105 4 u' e'.value.length (cellsOf e'.value) := by
    by_cases hjl : j < us.length
    · rw [List.getElem?_append_left hjl] at h2
      exact h5.vals j e' u' h1 h2
    rw [List.getElem?_append_right (by omega)] at h2; have hj0 : j = us.length := by
      have := (List.getElem?_eq_some_iff.1 h2).1; simp at this; omega
    subst hj0; simp at h2; subst h2; rw [hj] at h1
    cases h1
    exact own_offk hu (((Off.refl [] W5).alloc o).drew) (by simp)
  refine own_offk (own_offk hrow hgo (fun b hb hm => ?_)) hS (fun b hb hm => ?_)
  · obtain ⟨c1, hb1⟩ := own_blks hrow b hb
    obtain ⟨c2, hb2⟩ := hvt b hm; exact hb1.ne_ hb2 (by decide) rfl
  have := (own_made_ hrow b hb).1; simp at hm; omega
theorem bootE_ok {D : PDisk} {n : Nat} (h : Ok D n) (fs : List FateP) (es : List EditP) (ev : Value) (hf : fs.length ≤ 5000000000000) : Ok (D.bootE fs es ev) n :=
  ⟨h.names, h.safe, h.later, h.llen, h.inos, by simp [PDisk.bootE], h.clock, hf, h.nlen, h.slen, h.llens⟩
set_option maxRecDepth 100000 in
set_option maxHeartbeats 16000000 in
theorem dboot_callE (p n : Nat) (G : Geo) (D : PDisk) (fp ep : Option Addr) (fs : List FateP) (es : List EditP) (nf c ne ce : Nat) (w : World) (h : DSE w p G D n) (hF : FRow w fp fs) (hn : fs.length = nf) (hb : nf ≤ 4398046511103) (hpn : fp = none → fs = [])
    (hER : ∀ W, Off (p :: G.parts) w W → ERow W ep es) (hne : es.length = ne) (hnb : ne ≤ 1000000) (hvl : ∀ e ∈ es, e.value.length ≤ 2932031007402 ∧ Fits e.value) :
    Calls Tryz.prog 12 #[.pointer (some ⟨p, 0, none⟩), .slice fp nf c, .slice ep ne ce] w fun e w' => e = .returned (.tuple #[]) ∧ ∃ ev, DSETo w p G.parts w' (D.bootE fs es ev) n := by
  obtain ⟨i1, hi1, hy0, hy1, hy2⟩ := info_parts infoEdit; have H := Lib.hid h; have HCL := Lib.hid (fclone_any fp fs nf c w hF hn (by omega) hpn); have HN := Lib.hid hn; have HER := Lib.hid hER; have HNE := Lib.hid hne; have HVL := Lib.hid hvl; have hc0 := h.m.blk.cell; unfold diskCells at hc0; clear h hF hn hpn hER hne hvl
  go_enter Tryz.func12, Tryz.ntmps12
  go_wp2_with fail
  refine HCL.out.mono ?_
  rintro e w1 ⟨v0, rfl, hown, ho⟩; obtain ⟨pv, cv, rfl⟩ := row_len hown; have H1 := Lib.hid (H.out.off ho); have HOWN := Lib.hid hown; have HO := Lib.hid ho; have hc := H1.out.m.blk.cell; have hf := H1.out.m.blk.frozen; have hl := H1.out.m.blk.lt; unfold diskCells at hc; clear hown ho hc0
  go_upto_region 2 with fail
  obtain ⟨cs, hcs⟩ : ∃ cs, (((diskCells G D).setIfInBounds 5 (.bool false)).setIfInBounds 7 (.slice none 0 0)).setIfInBounds 8 (.slice pv nf cv) = cs := ⟨_, rfl⟩
  refine code_gen (fun W => Blk W p 126 (cs.setIfInBounds 9 (.slice none 0 0)) ∧ Off [p] w1 W)
    ⟨by rw [← hcs]; exact (((H1.out.m.blk.set_ 5 _).set_ 7 _).set_ 8 _).set_ 9 _, ((((Off.refl [p] w1).setCell (.inr (by simp)) _).setCell (.inr (by simp)) _).setCell (.inr (by simp)) _).setCell (.inr (by simp)) _⟩ ?_
  rintro W ⟨hB, hoW⟩; have HB := Lib.hid hB; have HOW := Lib.hid hoW; have HCS := Lib.hid hcs; have HPW := Lib.hid (show p < W.heap.size from Nat.lt_of_lt_of_le hl hoW.size); have HOO := Lib.hid (show Off (p :: G.parts) w W from (HO.out.mono (fun _ _ h => by simp at h)).trans hoW (fun x _ h => by simp at h; subst h; exact List.mem_cons_self ..)); clear hc hf hl hB hoW hcs
  go_wp2_with fail
  go_loopw [26] (fun x wr => ∃ (us : List Value) (v : Value), x = .int .i64 us.length ∧ us.length ≤ ne ∧ Hid (EMid W wr p cs es us v)) (fun x _ => ne - (intOf x).toNat)
  case atStart => exact ⟨[], .slice none 0 0, rfl, by simp, Lib.hid ⟨HB.out, Off.refl _ _, by
    have : flatE es [] = [] := by cases es <;> rfl
    rw [this]; exact ⟨rfl, .inl ⟨rfl, rfl⟩⟩, fun j e u _ h2 => by simp at h2⟩⟩
  case round =>
    clear HB; obtain ⟨us, v, rfl, hi, HM⟩ := hrel; obtain ⟨i, hil⟩ : ∃ i, us.length = i := ⟨_, rfl⟩
    have HIL := Lib.hid hil; rw [hil] at hi ⊢; clear hil
    by_cases hlt : i < ne
    · have hie : i < es.length := by rw [HNE.out]; exact hlt
      have hWr : Off (p :: G.parts) w wr := HOO.out.trans HM.out.off (fun x _ h => by simp at h; subst h; exact List.mem_cons_self ..)
      obtain ⟨a, rfl, hab, hn⟩ := HER.out wr hWr (fun e => by rw [e] at hie; simp at hie); have hej := List.getElem?_eq_getElem hie; obtain ⟨u, hu, hin⟩ := hn i _ hej; have HVE := Lib.hid (HVL.out _ (List.getElem_mem hie)); generalize es[i] = e at hej hu hin HVE; have HEJ := Lib.hid hej; obtain ⟨q, d, rfl, hqd, hdm, hqn, hfu, hru⟩ := hu; obtain ⟨k, hk⟩ : ∃ k, e.value.length = k := ⟨_, rfl⟩
      rw [hk] at hin hqd; have HRU := Lib.hid (And.intro hru (And.intro hk hqn)); have c0 := hin.at_; have c1 := hin.path; have c2 := hin.value; have hilt : (i : Int) < ne := by omega
      have habk : (a.add (i * 3)).block < wr.heap.size := by rw [add_block]; exact hab
      clear hin hn hab hej hie hru hk hqn hWr hfu
      go_upto_region 5 with fail
      refine code_gen (fun W3 => Blk W3 wr.heap.size 36 #[.int .i64 e.at_, .string e.path, .slice q k d] ∧ Off [] wr W3) ⟨Blk.new _ _ _, (Off.refl _ _).alloc _⟩ ?_
      rintro W3 ⟨hbe, ho3⟩; clear c0 c1 c2 habk; have hce := hbe.cell; have HBE := Lib.hid hbe; have HO3 := Lib.hid ho3; have HCV := Lib.hid (clone_any q e.value k d W3 (HRU.out.1.off ho3) HRU.out.2.1 (by rw [← HRU.out.2.1]; exact HVE.out.1) HRU.out.2.2); clear hbe ho3
      go_wp2_with fail
      refine HCV.out.mono ?_
      rintro e' w4 ⟨v', rfl, hown4, ho4⟩; obtain ⟨pq, cq, rfl⟩ := row_len hown4; have HM4 := Lib.hid ((HM.out.keep HO3.out).keep ho4); have HW4 := Lib.hid (own_base hown4 (show W.heap.size ≤ _ from Nat.le_trans HM.out.off.size HO3.out.size)); have hb4 := HBE.out.off ho4 (by simp); have HB4 := Lib.hid hb4; have HO4 := Lib.hid ho4; have hc4 := hb4.cell; have hf4 := hb4.frozen
      have hl4 := hb4.lt; have HKL := Lib.hid (show wr.heap.size ≤ w4.heap.size ∧ wr.heap.size < w4.heap.size from ⟨Nat.le_of_lt hb4.lt, hb4.lt⟩); clear hown4 ho4 hb4 hce HBE HCV
      go_upto_region 6 with fail
      refine code_gen (fun W5 => Blk W5 wr.heap.size 36 #[.int .i64 e.at_, .string e.path, .slice pq k cq] ∧ EMid W W5 p cs es us v ∧ W5.ownsRow W.heap.size 105 4 (.slice pq k cq) k (cellsOf e.value)) ⟨by simpa using HB4.out.set_ 2 (.slice pq k cq), ?_, ?_⟩ ?_
      · exact HM.out.keep ((HO3.out.trans_nil HO4.out).setCell (.inl (Nat.le_refl _)) _)
      · refine own_offk HW4.out ((Off.refl [wr.heap.size] w4).setCell (.inr (by simp)) _) (fun b hb hm => ?_)
        obtain ⟨c1, hb1⟩ := own_blks HW4.out b hb; simp at hm; exact hb1.ne_ HB4.out (by decide) hm
      rintro W5 ⟨hb5, hm5, hw5⟩; have HM5 := Lib.hid hm5; have HW5 := Lib.hid hw5; have hcb := hb5.cell; have hc9 : W5.cell? ⟨p, 9, none⟩ = some v := by rw [hm5.blk.cell, ← HCS.out]; simp [diskCells]
      have hfp := hm5.blk.frozen; have hlp := hm5.blk.lt; obtain ⟨px, cx, hv⟩ := row_len hm5.row; rw [HIL.out] at hv; subst hv; have hown6 : (W5.alloc (.cells #[.int .i64 e.at_, .string e.path, .slice pq k cq] 36)).drew.ownsRow W.heap.size 36 3 (.slice px i cx) i (flatE es us) := by
        have := own_offk (k := []) hm5.row (((Off.refl [] W5).alloc (.cells #[.int .i64 e.at_, .string e.path, .slice pq k cq] 36)).drew) (by simp); rw [HIL.out] at this; exact this
      have HW6 := Lib.hid hown6; have HPL := Lib.hid (show some p ≠ (Value.slice px i cx).ownBlock from fun e => by
        have := (own_made_ hown6 p (by rw [← e]; simp)).1; have := HPW.out; omega)
      have HB5 := Lib.hid ((hm5.blk.alloc (.cells #[.int .i64 e.at_, .string e.path, .slice pq k cq] 36)).drew); have HSW := Lib.hid (show W.heap.size ≤ W5.heap.size from hm5.off.size); clear hb5 hm5 hw5 hown6 hc4 hf4 hl4
      go_region_law ((refine step_append_lies _ (by rfl) _ _ _ (by rfl) W.heap.size 36 i1 _ 3 48 Tryz.underlying24 hi1 hy0 hy1 hy2 rfl (by decide) _ i _ (by rfl) HW6.out ⟨W5.heap.size, 0, none⟩ 1 1 [_, _, _] (by rfl) (by rfl) (cell_three_at (Blk.new W5 _ _)) (by simp [Value.oneCell']) (by omega) (by unfold maxLen; omega) (by omega) (by have := HSW.out; simp; omega) (W5.heap.size + 1) (by simp) ?_; intro gg cap w7 hown7 hgrow7 hat7 hlt7; have hB7 := (HB5.out).grown hgrow7 HPL.out; have hc7 : w7.cell? ⟨p, 9, none⟩ = some (.slice px i cx) := (by rw [hB7.cell, ← HCS.out]; simp [diskCells]); have hf7 := hB7.frozen; have hl7 := hB7.lt))
      all_goals go_wp2_with fail
      all_goals refine ⟨⟨us ++ [.slice pq k cq], .slice (some ⟨gg, 0, none⟩) (i + 1) cap, by rw [List.length_append, HIL.out]; rfl, by rw [List.length_append, HIL.out]; simp; omega, Lib.hid ?_⟩, by simp only [intOf]; omega⟩
      all_goals
        have h9 := EMid.snoc (e := e) (u := .slice pq k cq) (gg := gg) (cap := cap) HM5.out (by rw [HIL.out]; exact HEJ.out) (by have := HW5.out; rw [← HRU.out.2.1] at this ⊢; exact this) HPW.out (by rw [HIL.out]; exact hown7) (by rw [HIL.out] at *; exact hgrow7); rw [HIL.out] at h9; exact h9
    obtain rfl : ne = i := by omega
    go_wp2_with fail
    refine bodyPost_end (results_none rfl _ _ _) rfl ?_
    refine ⟨rfl, v, ?_⟩
    have hown := HOWN.out; have HCS2 := HCS.out; generalize hvv : (Value.slice pv nf cv) = v1 at hown HCS2
    rw [← HN.out] at hown; obtain ⟨hFA, hFB⟩ := fatesAt_own hown; have hsz1 : w.heap.size ≤ w1.heap.size := HO.out.size
    have hszW : w1.heap.size ≤ W.heap.size := HOW.out.size
    have hpw := H.out.m.blk.lt; have ho2 : Off [p] w1 wr := HOW.out.trans HM.out.off (fun _ _ h => h)
    have hpl : ∀ b ∈ v1.ownBlock.toList, b ≠ p := fun b hb e => by
      have := (hFB b hb).1; omega
    have hPW := H1.out.m.parts.off ho2 (fun b hb h => by simp at h; subst h; exact H1.out.m.far hb); have hvb := fun b hb => own_made_ HM.out.row b hb
    have hvt := own_blks HM.out.row; have hub : ∀ u ∈ us, ∃ e : EditP, wr.ownsRow W.heap.size 105 4 u e.value.length (cellsOf e.value) := fun u hu => by
      obtain ⟨j, hj, rfl⟩ := List.getElem_of_mem hu; have hje : j < es.length := by rw [HNE.out, ← HIL.out]; exact hj
      exact ⟨_, HM.out.vals j _ _ (List.getElem?_eq_getElem hje) (List.getElem?_eq_getElem hj)⟩
    have hew := editsAt_own HM.out (by rw [HIL.out, HNE.out]) (by rw [HNE.out]; unfold maxLen; omega) (fun e he => (HVL.out e he).2) (v1.ownBlock.toList ++ (v.ownBlock.toList ++ us.flatMap fun u => u.ownBlock.toList))
      ⟨fun b hb => List.mem_append_right _ (List.mem_append_left _ hb), fun u hu b hb => List.mem_append_right _ (List.mem_append_right _ (List.mem_flatMap.2 ⟨u, hu, hb⟩))⟩
    have hff : FatesAt wr v1 (v1.ownBlock.toList ++ (v.ownBlock.toList ++ us.flatMap fun u => u.ownBlock.toList)) fs := by
      have := hFA.off ho2 (fun b hb h => by simp at h; exact hpl b hb h); obtain ⟨p1, c1, h1, h2, h3⟩ := this; refine ⟨p1, c1, h1, h2, fun hne => ?_⟩; obtain ⟨g, h4, h5, h6⟩ := h3 hne; exact ⟨g, h4, List.mem_append_left _ h5, h6⟩
    refine H.out.to (Off.refl _ _) ⟨{ G with tv := .slice none 0 0, fv := v1, fb := v1.ownBlock.toList ++ (v.ownBlock.toList ++ us.flatMap fun u => u.ownBlock.toList) }, ⟨?_, ?_⟩, ?_, ?_, H.out.sb⟩ (bootE_ok H.out.ok fs es v (by rw [HN.out]; omega))
    · have := HM.out.blk
      rw [← HCS2] at this; unfold diskCells at this ⊢
      simpa [PDisk.bootE] using this
    · exact {
        names := hPW.names
        safe := hPW.safe
        later := hPW.later
        lbl := hPW.lbl
        laters := hPW.laters
        ino := hPW.ino
        qsl := hPW.qsl
        inos := hPW.inos
        nodup := hPW.nodup
        trace := World.ownsRow_nil _ 0 _ 3
        fates := ⟨hff, hew⟩
        fbl := fun g hg => by
          rcases List.mem_append.1 hg with hg | hg
          · obtain ⟨_, cs, hB⟩ := hFB g hg
            exact ⟨_, cs, hB.off ho2 (fun h => by simp at h; exact hpl g hg h), .inl rfl⟩
          rcases List.mem_append.1 hg with hg | hg
          · obtain ⟨cs, hB⟩ := hvt g hg
            exact ⟨_, cs, hB, .inr (.inl rfl)⟩
          obtain ⟨u, hu, hgu⟩ := List.mem_flatMap.1 hg; obtain ⟨e, hr⟩ := hub u hu; obtain ⟨cs, hB⟩ := own_blks hr g hgu; exact ⟨_, cs, hB, .inr (.inr rfl)⟩
        apart := hPW.apart }
    · exact (HO.out.mono (fun _ _ h => by simp at h)).trans ho2 (fun x _ h => by simp at h; subst h; exact List.mem_cons_self ..)
    intro b hb
    rcases List.mem_cons.1 hb with rfl | hb
    · exact .inl (List.mem_cons_self ..)
    rcases mem_rest.1 hb with h | h | h | h | h | h | h
    · exact .inl (List.mem_cons_of_mem _ (mem_rest.2 (.inl h)))
    · exact .inl (List.mem_cons_of_mem _ (mem_rest.2 (.inr (.inl h))))
    · exact .inl (List.mem_cons_of_mem _ (mem_rest.2 (.inr (.inr (.inl h)))))
    · exact .inl (List.mem_cons_of_mem _ (mem_rest.2 (.inr (.inr (.inr (.inl h))))))
    · exact .inl (List.mem_cons_of_mem _ (mem_rest.2 (.inr (.inr (.inr (.inr (.inl h)))))))
    · simp [Value.ownBlock] at h
    right
    rcases List.mem_append.1 h with h | h
    · exact (hFB b h).1
    rcases List.mem_append.1 h with h | h
    · have := (hvb b h).1; omega
    obtain ⟨u, hu, hgu⟩ := List.mem_flatMap.1 h; obtain ⟨e, hr⟩ := hub u hu; have := (own_made_ hr b hgu).1; omega
end
section
open Go.RowKit Go.Op Go.Maps
structure DS (w : World) (p : Nat) (G : Geo) (D : PDisk) (n : Nat) : Prop where
  m : DiskM w p G D
  sb : G.sb.isSome = true
  ok : Ok D n
  tabs : TabsX w p G.parts
  quiet : D.edits = []
theorem DS.e {w : World} {p n : Nat} {G : Geo} {D : PDisk} (h : DS w p G D n) : DSE w p G D n := ⟨h.m, h.sb, h.ok, h.tabs⟩
theorem step_edits (D : PDisk) (c p q : ByteArray) : (D.step c p q).2.2.edits = D.edits := by
  unfold PDisk.step
  split
  · rfl
  dsimp only
  split
  · rfl
  split
  · rfl
  split <;> rfl
theorem call_edits (D : PDisk) (c p q : ByteArray) (k : PDisk → Bool → Int × PDisk) (hk : ∀ E full, (k E full).2.edits = E.edits) : (D.call c p q k).2.edits = D.edits := by
  have h := step_edits D c p q; unfold PDisk.call; generalize D.step c p q = st at h; obtain ⟨full, e, E⟩ := st; dsimp only at h ⊢
  split
  · exact h
  exact (hk E full).trans h
theorem lay_edits (D : PDisk) (p : ByteArray) (n : Node) (full : Bool) (l : List (Bool × Int)) : (D.lay p n full l).2.edits = D.edits := by
  unfold PDisk.lay; dsimp only
  split <;> rfl
theorem write_edits (D : PDisk) (p data : ByteArray) (mode : Int) : (D.write p data mode).2.edits = D.edits := call_edits _ _ _ _ _ fun E full => by
  unfold PDisk.write_
  cases E.at_ p with
  | none => exact lay_edits _ _ _ _ _
  | some o => dsimp only; split <;> rfl
theorem mkdir_edits (D : PDisk) (p : ByteArray) : (D.mkdir p).2.edits = D.edits := call_edits _ _ _ _ _ fun _ _ => lay_edits _ _ _ _ _
theorem link_edits (D : PDisk) (p q : ByteArray) : (D.link p q).2.edits = D.edits := call_edits _ _ _ _ _ fun _ _ => lay_edits _ _ _ _ _
theorem sync_edits (D : PDisk) (p : ByteArray) : (D.sync p).2.edits = D.edits := call_edits _ _ _ _ _ fun E full => by
  unfold PDisk.sync_; dsimp only
  split
  · rfl
  cases E.at_ p <;> rfl
theorem replace_edits (D : PDisk) (p q : ByteArray) : (D.replace p q).2.edits = D.edits := call_edits _ _ _ _ _ fun E full => by
  unfold PDisk.replace_; dsimp only
  split <;> rfl
theorem remove_edits (D : PDisk) (p : ByteArray) : (D.remove p).2.edits = D.edits := call_edits _ _ _ _ _ fun E full => by
  unfold PDisk.remove_; dsimp only
  split <;> rfl
theorem move_edits (D : PDisk) (p q : ByteArray) : (D.move p q).2.edits = D.edits := call_edits _ _ _ _ _ fun E full => by
  unfold PDisk.move_; dsimp only
  split
  · rfl
  split <;> rfl
theorem flush_edits (D : PDisk) : D.flush.2.edits = D.edits := call_edits _ _ _ _ _ fun _ _ => rfl
theorem get_edits (D : PDisk) (p : ByteArray) : (D.get p).2.edits = D.edits := by
  have h := step_edits D ⟨#[71, 101, 116]⟩ p ⟨#[]⟩; unfold PDisk.get; generalize D.step ⟨#[71, 101, 116]⟩ p ⟨#[]⟩ = st at h; obtain ⟨full, e, E⟩ := st; dsimp only at h ⊢
  split <;> exact h
theorem names_edits (D : PDisk) (p : ByteArray) : (D.namesC p).2.edits = D.edits := by
  have h := step_edits D ⟨#[78, 97, 109, 101, 115]⟩ p ⟨#[]⟩; unfold PDisk.namesC; generalize D.step ⟨#[78, 97, 109, 101, 115]⟩ p ⟨#[]⟩ = st at h; obtain ⟨full, e, E⟩ := st; dsimp only at h ⊢
  split <;> exact h
section
variable {w : World} {p n : Nat} {G : Geo} {D : PDisk}
end
end
section
open Go.RowKit Go.Op Go.Maps
section
variable (p n gd gb gt : Nat) (G : Geo) (D : PDisk) (W : World)
end
end
section
open PDisk
theorem step_quiet {D : PDisk} (c p q : ByteArray) (h : D.off = false) (hf : ∀ f ∈ D.fates, f.at_ ≠ D.trace.length) : D.step c p q = (false, 0, { D with clock := D.clock + 1, trace := D.trace ++ [⟨c, p, q⟩] }) := by
  unfold PDisk.step; rw [h]; have : D.fates.find? (fun f => decide (f.at_ = (D.trace.length : Int))) = none := List.find?_eq_none.2 (fun f hm => by simpa using hf f hm)
  simp [this]
theorem crash_names (D : PDisk) (f : FateP) : (D.crash f).names = D.safe ∨ (D.crash f).names ∈ D.later := by
  show (match D.later[(min f.keep (D.later.length : Int)).toNat - 1]? with | some l => if 0 < min f.keep (D.later.length : Int) then l else D.safe | none => D.safe) = D.safe ∨ (match D.later[(min f.keep (D.later.length : Int)).toNat - 1]? with | some l => if 0 < min f.keep (D.later.length : Int) then l else D.safe | none => D.safe) ∈ D.later
  split
  · rename_i y hy
    split
    · exact .inr (List.mem_of_getElem? hy)
    exact .inl rfl
  exact .inl rfl
theorem crash_inode (D : PDisk) (f : FateP) (i : Nat) : (D.crash f).inode i = (D.inode i).map (tear f.torn) := by
  unfold PDisk.inode
  split
  · rfl
  show (D.inos.map (tear f.torn))[i - 1]? = _
  rw [List.getElem?_map]
section
variable (old new : ByteArray) (f : FateP)
variable {old new f}
end
end
section
open PDisk
def PDisk.tick (D : PDisk) (c p q : ByteArray) : PDisk := { D with clock := D.clock + 1, trace := D.trace ++ [⟨c, p, q⟩] }
theorem step_free {D : PDisk} (c p q : ByteArray) (h : D.off = false) (hf : D.fates = []) : D.step c p q = (false, 0, D.tick c p q) :=
  step_quiet c p q h (by rw [hf]; intro f hf; cases hf)
section
variable {E : PDisk} {p q data : ByteArray} {mode : Int} {full : Bool}
end
theorem tear_kind (t : Int) (n : Ino) : (tear t n).node.kind = n.node.kind := by unfold tear; split <;> rfl
def newI (D : PDisk) : Nat := D.inos.length + 1
def nm1 (D : PDisk) (t : ByteArray) : NameL := putN D.names t (newI D)
def nm2 (D : PDisk) (p t : ByteArray) : NameL := delN (putN (nm1 D t) p (newI D)) t
section
variable {D : PDisk} {p t text : ByteArray} {f : FateP}
structure W1 (D E : PDisk) (p t text : ByteArray) (d : Bool) : Prop where
  names : E.names = nm1 D t
  safe : E.safe = D.names
  later : E.later = [nm1 D t]
  inos : ∃ tm, E.inos = D.inos ++ [⟨⟨⟨#[]⟩, 1, text, 384⟩, tm, d⟩]
  on : E.off = false
structure W3 (D E : PDisk) (p t text : ByteArray) : Prop where
  names : E.names = nm2 D p t
  safe : E.safe = D.names
  later : E.later = [nm1 D t, nm2 D p t]
  inos : ∃ tm, E.inos = D.inos ++ [⟨⟨⟨#[]⟩, 1, text, 384⟩, tm, false⟩]
  on : E.off = false
end
end
section
open Go.RowKit Go.Op Go.Maps
def Run (w0 w : World) (p : Nat) (D : PDisk) (n : Nat) : Prop := ∃ G, DS w p G D n ∧ Off [] w0 w ∧ w0.heap.size ≤ p ∧ ∀ b ∈ G.parts, w0.heap.size ≤ b
theorem Run.since {w0 w : World} {p n : Nat} {D : PDisk} (h : Run w0 w p D n) : Off [] w0 w := by obtain ⟨_, _, h2, _⟩ := h; exact h2
section
variable {w0 w : World} {p n : Nat} {D : PDisk}
end
theorem nmOf_look : ∀ (a : List Node) (i : Nat) (p : ByteArray), lookN (nmOf a i) p ≤ i + a.length ∧ (hasN (nmOf a i) p = true → i + 1 ≤ lookN (nmOf a i) p)
  | [], i, p => ⟨Nat.zero_le _, fun h => by simp [nmOf, hasN] at h⟩
  | n :: a, i, p => by
    obtain ⟨h1, h2⟩ := nmOf_look a (i + 1) p; unfold nmOf lookN
    by_cases e : n.path = p
    · rw [if_pos e]
      exact ⟨by simp only [List.length_cons]; omega, fun _ => Nat.le_refl _⟩
    rw [if_neg e]; refine ⟨by simp only [List.length_cons]; omega, fun h => ?_⟩; have := h2 (by simpa [hasN, e] using h); omega
theorem newD_ok {t : List Node} (hok : okTree t = true) : Ok (newD t) 0 := by
  have hl := okTree_len hok; have hN : NOk (newD t).inos.length (nmOf t 0) := fun x => by
    obtain ⟨h1, h2⟩ := nmOf_look t 0 x; refine ⟨by simp [newD, newD']; omega, fun h => ⟨by have := h2 h; omega, ?_⟩⟩; obtain ⟨n, hn, rfl⟩ := (nmOf_has _ _ _).1 h; exact okTree_small hok hn
  exact ⟨hN, hN, fun l hl => by simp [newD, newD'] at hl, by simp [newD, newD'], by simp [newD, newD']; omega, by simp [newD, newD'], by simp [newD, newD'], by simp [newD, newD'], by simp [newD, newD', nmOf_len]; omega, by simp [newD, nmOf_len]; omega, fun l hl => by simp [newD, newD'] at hl⟩
theorem run_new (fp : Option Addr) (t : List Node) (n c : Nat) (w0 w : World) (hof : Off [] w0 w) (hT : Tabs w0) (hR : Row w fp t) (hn : t.length = n) (hc : n ≤ c) (hok : okTree t = true) (hF : Fits t) :
    Calls Tryz.prog 10 #[.slice fp n c] w fun e w' => ∃ gd, e = .returned (.tuple #[.pointer (some ⟨gd, 0, none⟩), .int .i64 0]) ∧ Run w0 w' gd (newD t) 0 := by
  refine (dnew_ok fp t n c w hR hn hc hok hF (hT.off hof)).mono ?_
  rintro e w' ⟨gd, G, he, hM, hgd, hpl, hsb, ho⟩; have h1 := Nat.le_trans hof.size hgd; have h2 : ∀ b ∈ G.parts, w0.heap.size ≤ b := fun b hb => Nat.le_trans hof.size (hpl b hb)
  exact ⟨gd, he, G, ⟨hM, hsb, newD_ok hok, TabsX.of hT (hof.trans_nil ho) h1 h2, rfl⟩, hof.trans_nil ho, h1, h2⟩
end
section
open Go.RowKit Go.Op Go.Maps
end
section
open PDisk
section
variable {D E : PDisk} {p t text : ByteArray}
end
section
variable {old text : ByteArray} {f : FateP}
end
end
section
open PDisk
section
variable {a b : ByteArray} {f : FateP}
end
end
section
open Go.RowKit Go.Op Go.Maps
section
variable {w0 w : World} {p n : Nat} {D : PDisk}
end
end
end Go.Proofs.YthciejabapdbgaaGreatDoor
