/- hawserlaw06.TreeNames: the walk. Conditions: the tables of unicode/utf8 are laid; no string is longer than Go's can be. -/
import Derived.Test.YtpaeihdkggbeoaaDoorAwake
import Derived.Deep.Slices
import Derived.Laws.Concat
import Derived.Laws.AppendOwnNone
namespace Go.Proofs.YtpaeihdkggbeoaaDoor
open Go.RowKit Go.Op

theorem infoNode : (Tryd.prog.info? 29).map (fun i => (i.zero, i.size, i.bytes)) = some (some node0.val, 4, 48) := by kernel_rfl
def ndL (n : Node) : List Value := [.string n.path, .int .i64 n.kind, .string n.data, .int .i64 n.mode]
theorem flat4 : ∀ (t : List Node) (i : Nat) (r : Nat), r < 4 → (t.flatMap ndL)[i * 4 + r]? = (t[i]?).bind fun n => (ndL n)[r]?
  | [], i, r, _ => by simp
  | n :: t, 0, r, hr => by
    rw [List.flatMap_cons, Nat.zero_mul, Nat.zero_add, List.getElem?_append_left (by simp [ndL]; omega)]
    rfl
  | n :: t, i + 1, r, hr => by
    have ih := flat4 t i r hr
    rw [List.flatMap_cons, List.getElem?_append_right (by simp [ndL]; omega)]
    have : (i + 1) * 4 + r - (ndL n).length = i * 4 + r := by simp [ndL]; omega
    rw [this, ih]
    simp
theorem flat_len (t : List Node) : (t.flatMap ndL).length = t.length * 4 := by
  induction t with
  | nil => rfl
  | cons n t ih => rw [List.flatMap_cons, List.length_append, ih]; simp [ndL]; omega
theorem flat_one (t : List Node) : ∀ u ∈ t.flatMap ndL, u.oneCell' = true := by
  intro u hu
  obtain ⟨n, _, hn⟩ := List.mem_flatMap.1 hu
  simp [ndL] at hn
  rcases hn with rfl | rfl | rfl | rfl <;> rfl
/-- a row's cells, one by one -/
theorem row_cells {w : World} {a : Addr} {t : List Node} (h : Row w (some a) t) : ∀ j u, (t.flatMap ndL)[j]? = some u → w.cell? (a.add j) = some u := by
  intro j u hj
  have hj4 : j = j / 4 * 4 + j % 4 := by omega
  rw [hj4] at hj ⊢
  rw [flat4 t _ _ (Nat.mod_lt _ (by decide))] at hj
  cases hn : t[j / 4]? with
  | none => rw [hn] at hj; cases hj
  | some n =>
    rw [hn] at hj
    obtain ⟨a', e, _, hr⟩ := h (by intro e; subst e; simp at hn)
    cases e
    have hna := hr _ _ hn
    rw [← Go.Deep.add_add]
    have hm := Nat.mod_lt j (show 0 < 4 by decide)
    generalize j % 4 = r at *
    match r, hm, hj with
    | 0, _, hj => cases hj; exact hna.path
    | 1, _, hj => cases hj; exact hna.kind
    | 2, _, hj => cases hj; exact hna.data
    | 3, _, hj => cases hj; exact hna.mode
theorem own_nodes {W : World} {base m : Nat} {v : Value} {t : List Node} (hm : m = t.length) (h : W.ownsRow base 29 4 v m (t.flatMap ndL)) (h0 : 0 < m) :
    ∃ g cap, v = .slice (some ⟨g, 0, none⟩) m cap ∧ base ≤ g ∧ Row W (some ⟨g, 0, none⟩) t := by
  subst hm
  rcases h.2 with ⟨_, h1⟩ | ⟨g, cap, cur, rfl, hb, hh, hc, _, hsz, ht⟩
  · omega
  · refine ⟨g, cap, rfl, hb, row_blk (ty := 29) hh fun i n hi => ?_⟩
    have key : ∀ r, r < 4 → cur[i * 4 + r]? = (ndL n)[r]? := fun r hr => by
      have h2 : (cur.toList.take (t.length * 4))[i * 4 + r]? = (ndL n)[r]? := by rw [ht, flat4 t i r hr, hi]; rfl
      have hil := (List.getElem?_eq_some_iff.1 hi).1
      rw [List.getElem?_take, if_pos (by omega)] at h2
      simpa using h2
    exact ⟨key 0 (by decide), key 1 (by decide), key 2 (by decide), key 3 (by decide)⟩
/-- a row of strings that the call owns -/
theorem own_strs {W : World} {base : Nat} {v : Value} {L : List ByteArray} (h : W.ownsRow base 9 1 v L.length (L.map Value.string)) :
    ∃ pl cap, v = .slice pl L.length cap ∧ ∀ (i : Nat) (x : ByteArray), L[i]? = some x → ∃ g, pl = some ⟨g, 0, none⟩ ∧ g < W.heap.size ∧ W.cell? ⟨g, i, none⟩ = some (.string x) := by
  rcases h.2 with ⟨rfl, h1⟩ | ⟨g, cap, cur, rfl, hb, hh, hc, _, hsz, ht⟩
  · exact ⟨none, 0, by rw [h1], fun i x hi => by rw [List.length_eq_zero_iff.1 h1] at hi; simp at hi⟩
  · refine ⟨some ⟨g, 0, none⟩, cap, rfl, fun i x hi => ⟨g, rfl, (Array.getElem?_eq_some_iff.1 hh).1, ?_⟩⟩
    have hil := (List.getElem?_eq_some_iff.1 hi).1
    rw [cell_of_row W g i cur 9 (0, 0) hh]
    have h2 : (cur.toList.take (L.length * 1))[i]? = some (.string x) := by rw [ht, List.getElem?_map, hi]; rfl
    rw [List.getElem?_take, if_pos (by omega)] at h2
    simpa using h2
def rootC : Array Value := #[.string ⟨#[]⟩, .int .i64 2, .string ⟨#[]⟩, .int .i64 0]
/-- how many names the first k directories have -/
def cntN (t : List Node) (k : Nat) : Nat := (((rootN :: t).take k).map fun d => (namesR t d.p).length).sum
theorem cntN_succ {t : List Node} {k : Nat} (hk : k < (rootN :: t).length) : cntN t (k + 1) = cntN t k + (namesR t (rootN :: t)[k].p).length := by
  unfold cntN; rw [List.take_succ_eq_append_getElem hk, List.map_append, List.sum_append]; simp
theorem cntN_all {t : List Node} (h : okTree t = true) : cntN t (t.length + 1) = t.length := by
  unfold cntN; rw [List.take_of_length_le (by simp)]; exact names_count h
theorem cntN_le {t : List Node} (h : okTree t = true) : ∀ k, k ≤ t.length + 1 → cntN t k ≤ t.length := fun k hk => by
  have hmono : ∀ d k, cntN t k ≤ cntN t (k + d) := fun d => by
    induction d with
    | zero => intro k; exact Nat.le_refl _
    | succ d ih =>
      intro k
      refine Nat.le_trans (ih k) ?_
      rcases Nat.lt_or_ge (k + d) (rootN :: t).length with hl | hl
      · have := cntN_succ (t := t) hl; rw [← Nat.add_assoc, this]; omega
      · unfold cntN
        rw [List.take_of_length_le hl, List.take_of_length_le (by omega)]
        exact Nat.le_refl _
  have := hmono (t.length + 1 - k) k
  rw [show k + (t.length + 1 - k) = t.length + 1 by omega, cntN_all h] at this
  exact this
theorem names_len (t : List Node) (d : Str) : (namesR t d).length ≤ t.length := by
  unfold namesR
  split
  · exact namesOf_len t d
  · simp
theorem getP_found {t : List Node} {d : Str} {nd : Node} {f : Bool} (hok : okTree t = true) (hm : ∃ m ∈ t, m.p = d) (h : (f = true ∧ okTree t = true ∧ nd ∈ t ∧ nd.p = d) ∨ (f = false ∧ nd = node0 ∧ (okTree t = true → ∀ m ∈ t, m.p ≠ d))) : f = true := by
  rcases h with ⟨h, _⟩ | ⟨_, _, h⟩
  · exact h
  · obtain ⟨m, h1, h2⟩ := hm
    exact absurd h2 (h hok m h1)
theorem rise_at {L : List ByteArray} (h : L.Pairwise fun a b => Lib.compareBytes (str a) (str b) < 0) {i : Nat} {x y : ByteArray} (hx : L[i]? = some x) (hy : L[i + 1]? = some y) : bytesLess x.toList y.toList = true := by
  obtain ⟨h1, rfl⟩ := List.getElem?_eq_some_iff.1 hx
  obtain ⟨h2, rfl⟩ := List.getElem?_eq_some_iff.1 hy
  rw [toList_str, toList_str, less_cmp]
  exact decide_eq_true (List.pairwise_iff_getElem.1 h i (i + 1) h1 h2 (by omega))

set_option maxRecDepth 100000 in
set_option maxHeartbeats 4000000 in
theorem treeNames_bad (p : Option Addr) (t : List Node) (n cap : Nat) (w : World) (hR : Row w p t) (hn : t.length = n) (hcap : n ≤ cap) (hbig : n ≤ maxLen) (hF : Fits t) (hT : Tabs w) (hok : okTree t = false) :
    Calls Tryd.prog 3 #[.slice p n cap] w fun e w' => e = .returned (.bool true) ∧ Off [] w w' := by
  have HN := Lib.hid hn
  have HR := Lib.hid hR
  have HF := Lib.hid hF
  have HOK := Lib.hid hok
  clear hn hR hF hok
  go_enter Tryd.func3, Tryd.ntmps3
  go_wp2_with fail
  refine (awake_any _ hT).mono ?_
  rintro e w1 ⟨rfl, ho1⟩
  go_wp2_with fail
  refine (check_v p t n cap _ (HR.out.off ho1) HN.out hcap hbig HF.out (hT.off ho1) 60 (chkV_bad HOK.out)).mono ?_
  rintro e w2 ⟨rfl, ho2⟩
  have ho := ho1.trans_nil ho2
  clear ho1 ho2
  go_wp2_with fail
  refine (names_any p t n cap ⟨#[]⟩ _ (HR.out.off ho) HN.out hcap hbig HF.out (by decide) (hT.off ho)).mono ?_
  rintro e w3 ⟨v, rfl, hown, ho3⟩
  have e0 : namesR t (str ⟨#[]⟩) = [] := by unfold namesR; rw [HOK.out]; rfl
  rw [e0] at hown
  obtain ⟨pl, capl, rfl, -⟩ := own_strs hown
  clear hown e0
  go_wp2_with fail
  go_ret
  exact ⟨rfl, ho.trans_nil ho3⟩
theorem own_off0 {w w2 W6 : World} {v : Value} {n : Nat} {xs : List Value} {o : Obj} (ho : Off [] w (w2.alloc o)) (hown : (w2.alloc o).ownsRow w2.heap.size 29 4 v n xs) (hg : (w2.alloc o).grownBy W6 v.ownBlock) (hsz : w.heap.size ≤ w2.heap.size) : Off [] w W6 := by
  refine ho.grown hg (fun g hg' => .inl ?_)
  rcases hown.2 with ⟨rfl, _⟩ | ⟨g', cap, cur, rfl, hb, _⟩
  · cases hg'
  · cases hg'; exact Nat.le_trans hsz hb
set_option maxRecDepth 100000 in
set_option maxHeartbeats 8000000 in
theorem treeNames_some (a : Addr) (t : List Node) (n cap : Nat) (w : World) (hR : Row w (some a) t) (hn : t.length = n) (hcap : n ≤ cap) (hF : Fits t) (hT : Tabs w) (hok : okTree t = true) :
    Calls Tryd.prog 3 #[.slice (some a) n cap] w fun e w' => e = .returned (.bool true) ∧ Off [] w w' := by
  have hlen : n ≤ 1000 := by rw [← hn]; exact okTree_len hok
  have hbig : n ≤ maxLen := by unfold maxLen; omega
  have HN := Lib.hid hn
  have HR := Lib.hid hR
  have HF := Lib.hid hF
  have HOK := Lib.hid hok
  obtain ⟨i0, hi, hz0, hz1, hz2⟩ := info_parts infoNode
  clear hn hR hF hok
  go_enter Tryd.func3, Tryd.ntmps3
  go_wp2_with fail
  refine (awake_any _ hT).mono ?_
  rintro e w1 ⟨rfl, ho1⟩
  go_wp2_with fail
  refine (check_v (some a) t n cap _ (HR.out.off ho1) HN.out hcap hbig HF.out (hT.off ho1) 0 (chkV_ok HOK.out)).mono ?_
  rintro e w2 ⟨rfl, ho2⟩
  have ho := ho1.trans_nil ho2
  have HRB := Lib.hid ((HR.out.off ho).off ((Off.refl [] w2).alloc (.cells rootC 29)))
  have HOB := Lib.hid (ho.alloc (.cells rootC 29))
  clear ho1 ho2
  have hsz2 := ho.size
  have hown0 : (w2.alloc (.cells rootC 29)).ownsRow w2.heap.size 29 4 (.slice (some ⟨w2.heap.size, 0, none⟩) 1 1) 1 (ndL rootN) :=
    ⟨rfl, .inr ⟨w2.heap.size, 1, rootC, rfl, Nat.le_refl _, heap_alloc_new w2 _, Nat.le_refl _, by decide, rfl, rfl⟩⟩
  have hnews := row_cells HRB.out
  have hfl : (t.flatMap ndL).length = n * 4 := by rw [flat_len, HN.out]
  have hone := flat_one t
  have HNW := Lib.hid hnews
  have HFL := Lib.hid hfl
  have HON := Lib.hid hone
  clear hnews hfl hone ho
  unfold rootC at hown0
  go_wp2_with (at_builtin; refine wpList_append_own _ rfl _ _ 22 rfl w2.heap.size 29 i0 node0.val 4 48 Tryd.underlying22 hi hz0 hz1 hz2 rfl (by decide) _ _ _ rfl hown0 a n cap (t.flatMap ndL) rfl HFL.out HNW.out HON.out (by unfold maxLen; omega) (by omega) (by simp) ?_; intro v' W6 hown' hgrow _; obtain ⟨g6, cap6, rfl, hg6, hR6⟩ := own_nodes (t := rootN :: t) (by simp [HN.out]; omega) hown' (by omega); have HR6 := Lib.hid hR6; have HO6 := Lib.hid (own_off0 HOB.out hown0 hgrow hsz2); clear hown' hgrow hR6 hown0)
  clear hz0 hz1 hz2 hi
  go_loopw [26, 3] (fun x c wr => ∃ k cnt : Nat, x = .int .i64 k ∧ c = .int .i64 cnt ∧ k ≤ n + 1 ∧ cnt ≤ n ∧ Off [] W6 wr ∧ Hid (cnt = cntN t k)) (fun x _ _ => n + 1 - (intOf x).toNat)
  case atStart => exact ⟨0, 0, rfl, rfl, by omega, by omega, Off.refl _ _, Lib.hid rfl⟩
  case round =>
    obtain ⟨k, cnt, rfl, rfl, hk, hcn, ho6, hcnt⟩ := hrel
    by_cases hkn : k < n + 1
    · have hkl : k < (rootN :: t).length := by rw [List.length_cons, HN.out]; exact hkn
      obtain ⟨a6, ea6, hna, hab⟩ := (HR6.out.off ho6).get k hkl
      have ea6 := Option.some.inj ea6
      subst ea6
      have HCS := Lib.hid (cntN_succ hkl)
      have hmem : (rootN :: t)[k] = rootN ∨ (rootN :: t)[k] ∈ t := List.mem_cons.1 (List.getElem_mem hkl)
      generalize (rootN :: t)[k] = d at *
      have hds : d.path.size ≤ 400 := by
        rcases hmem with rfl | hm
        · decide
        · exact okTree_small HOK.out hm
      have hfile : d.kind ≠ 2 → (namesR t (str d.path)).length = 0 := fun hne => by
        rcases hmem with rfl | hm
        · exact absurd rfl hne
        · rw [show namesR t (str d.path) = [] from names_file HOK.out hm hne]; rfl
      have HFILE := Lib.hid hfile
      have c0 := hna.path
      have c1 := hna.kind
      have c2 := hna.data
      have c3 := hna.mode
      rw [addr_add] at c0 c1 c2 c3
      dsimp only at c1 c2 c3 hab
      clear hna hmem hfile
      go_wp2_with fail
      have ho7 := (HO6.out.trans_nil ho6).alloc (.cells (ndCells d) 29)
      refine (names_any (some a) t n cap d.path _ (((HR.out.off HO6.out).off ho6).off ((Off.refl [] wr).alloc (.cells (ndCells d) 29))) HN.out hcap hbig HF.out (by unfold maxLen; omega) (hT.off ho7)).mono ?_
      rintro e Wb ⟨v, rfl, hown, ho8⟩
      have hBb := (Blk.new wr 29 (ndCells d)).off ho8 (by simp)
      have hoWb := ho7.trans_nil ho8
      have ho6b := (ho6.alloc (.cells (ndCells d) 29)).trans_nil ho8
      unfold ndCells at hBb
      have hcb := hBb.cell
      have hlb := hBb.lt
      have HBB := Lib.hid hBb
      have hml := names_len t (str d.path)
      rw [HN.out] at hml
      obtain ⟨pl, capl, rfl, hstr⟩ := own_strs hown
      have HSTR := Lib.hid hstr
      have HRISE := Lib.hid (names_rise HOK.out (str d.path))
      have HFND := Lib.hid (fun (x : ByteArray) (hx : x ∈ namesR t (str d.path)) => names_found HOK.out hx)
      have HSM := Lib.hid (fun (x : ByteArray) (hx : x ∈ namesR t (str d.path)) => names_small HOK.out hx)
      have hcl : cnt + (namesR t (str d.path)).length ≤ n := by
        have h1 := cntN_le HOK.out (k + 1) (by rw [HN.out]; omega)
        rw [HCS.out, ← hcnt.out, HN.out] at h1
        exact h1
      clear hown hstr hBb ho7 ho8 c0 c1 c2 c3 hab
      generalize hL : namesR t (str d.path) = L at *
      have HL := Lib.hid hL
      obtain ⟨m, hm⟩ : ∃ m, L.length = m := ⟨_, rfl⟩
      rw [hm] at hml hcl
      have HM := Lib.hid hm
      have HFILE2 := Lib.hid (fun h => hm ▸ HFILE.out h)
      clear hL hm HFILE
      rw [HM.out]
      have key : ∀ b : Bool, b = decide (d.kind = 2) → b = false → m = 0 := fun b h1 h2 => HFILE2.out (by rw [h2] at h1; exact of_decide_eq_false h1.symm)
      have KEY := Lib.hid key
      clear key
      by_cases hkd : d.kind = 2
      · have hkb : (d.kind == 2) = true := beq_iff_eq.2 hkd
        have HKD := Lib.hid hkd
        clear hkd
        go_wp2_with fail
        go_loopw [44, 3] (fun y c wi => ∃ j : Nat, y = .int .i64 j ∧ c = .int .i64 ((cnt + j : Nat) : Int) ∧ j ≤ m ∧ Off [] Wb wi) (fun y _ _ => m - (intOf y).toNat)
        case atStart => exact ⟨0, rfl, rfl, by omega, Off.refl _ _⟩
        case round =>
          obtain ⟨j, rfl, rfl, hj, hoi⟩ := hrel
          by_cases hjm : j < m
          · have hjl : j < L.length := by rw [HM.out]; exact hjm
            have hxi := List.getElem?_eq_getElem hjl
            have HMEM := Lib.hid (List.getElem_mem hjl)
            have HPREV := Lib.hid (fun (i : Nat) (hi : i + 1 = j) => show ∃ y, L[i]? = some y from ⟨_, List.getElem?_eq_getElem (show i < L.length by omega)⟩)
            generalize L[j] = x at *
            obtain ⟨gl, rfl, hgl, hcx⟩ := HSTR.out j x hxi
            have hxs := HSM.out x HMEM.out
            obtain ⟨fm, hfm, hfp⟩ := HFND.out x HMEM.out
            have HFM := Lib.hid hfm
            have HFP := Lib.hid hfp
            have HXI := Lib.hid hxi
            have hcx' := (hoi.cell (p := ⟨gl, j, none⟩) hgl (by simp)).trans hcx
            have hbi := HBB.out.off hoi (by simp)
            have hci := hbi.cell
            have hli := hbi.lt
            clear hbi hcx hfm hfp hxi hcb hlb
            have hoWi := hoWb.trans_nil hoi
            have HRI := Lib.hid (HR.out.off hoWi)
            have HTI := Lib.hid (hT.off hoWi)
            by_cases hd0 : str d.path = []
            · have g1 : d.path.toList = [] := by rw [toList_str]; exact hd0
              have g2 : d.path.toList.isEmpty = true := by simp [g1]
              have HPX := Lib.hid (show ∃ q ∈ t, q.p = str x from ⟨fm, HFM.out, by have := HFP.out; rw [if_pos hd0] at this; exact this⟩)
              clear hd0
              go_wp2_with fail
              refine (get_any (some a) t n cap x _ HRI.out HN.out hcap hbig HF.out (by unfold maxLen; omega) HTI.out).mono ?_
              rintro e W9 ⟨nd, f, rfl, hg9, ho9⟩
              obtain rfl := getP_found HOK.out HPX.out hg9
              have ho10 := (hoi.trans_nil ho9).alloc (.cells (ndCells nd) 29)
              have hcx9 := (ho9.cell (p := ⟨gl, j, none⟩) (Nat.lt_of_lt_of_le hgl hoi.size) (by simp)).trans hcx'
              clear hci hli hcx' hg9
              unfold Node.val
              dsimp only
              by_cases hj0 : j = 0
              · have hjz : ¬ ((0 : Int) < (j : Int)) := by omega
                have hjz' : ¬ (0 < j) := by omega
                have HJ0 := Lib.hid hj0
                clear hj0
                go_wp2_with fail
                refine ⟨⟨j + 1, by congr 1, by first | (congr 1; done) | (congr 1; push_cast; omega), by omega, ho10⟩, ?_⟩
                simp only [intOf]; omega
              · obtain ⟨i, rfl⟩ : ∃ i, j = i + 1 := ⟨j - 1, by omega⟩
                obtain ⟨y, hy⟩ := HPREV.out i rfl
                obtain ⟨gl', egl, hgl', hcy⟩ := HSTR.out i y hy
                injection egl with egl
                injection egl with egl _ _
                subst egl
                have hcy9 := (ho9.cell (p := ⟨gl, i, none⟩) (Nat.lt_of_lt_of_le hgl hoi.size) (by simp)).trans ((hoi.cell (p := ⟨gl, i, none⟩) hgl (by simp)).trans hcy)
                have hless := rise_at HRISE.out hy HXI.out
                have hi0 : (0 : Int) ≤ (i : Int) := by omega
                have hi1 : (i : Int) < (m : Int) := by omega
                have him : i < m := by omega
                have hgl9 : gl < W9.heap.size := Nat.lt_of_lt_of_le (Nat.lt_of_lt_of_le hgl hoi.size) ho9.size
                clear hy hcy hgl' hj0 hgl
                go_wp2_with fail
                refine ⟨⟨i + 1 + 1, by congr 1, by first | (congr 1; done) | (congr 1; push_cast; omega), by omega, ho10⟩, ?_⟩
                simp only [intOf]; omega
            · have g1 : ¬ d.path.toList = [] := by rw [toList_str]; exact hd0
              have g2 : d.path.toList.isEmpty = false := by simpa using g1
              have hpx : ∃ q ∈ t, q.p = str (d.path ++ ⟨#[47]⟩ ++ x) := ⟨fm, HFM.out, by have := HFP.out; rw [if_neg hd0] at this; rw [this, str_append, str_append]; simp [str]⟩
              have a1 : ∀ wx : World, (Op.stringOp .add d.path ⟨#[47]⟩).run Tryd.prog wx = .ok (.string (d.path ++ ⟨#[47]⟩)) wx := fun wx => run_string_add_sum wx _ _ (by show d.path.size + 1 ≤ _; omega)
              have a2 : ∀ wx : World, (Op.stringOp .add (d.path ++ ⟨#[47]⟩) x).run Tryd.prog wx = .ok (.string (d.path ++ ⟨#[47]⟩ ++ x)) wx := fun wx => run_string_add_sum wx _ _ (by rw [ByteArray.size_append]; show d.path.size + 1 + x.size ≤ _; omega)
              have hsq : (d.path ++ ⟨#[47]⟩ ++ x).size ≤ maxLen := by rw [ByteArray.size_append, ByteArray.size_append]; unfold maxLen; show d.path.size + 1 + x.size ≤ _; omega
              obtain ⟨q1, hq1⟩ : ∃ q1, d.path ++ ⟨#[47]⟩ = q1 := ⟨_, rfl⟩
              rw [hq1] at a1 a2 hsq hpx
              clear hq1
              obtain ⟨q, hq⟩ : ∃ q, q1 ++ x = q := ⟨_, rfl⟩
              rw [hq] at a2 hsq hpx
              clear hq
              have HPX := Lib.hid hpx
              clear hd0 hpx
              go_wp2_with fail
              refine (get_any (some a) t n cap q _ HRI.out HN.out hcap hbig HF.out hsq HTI.out).mono ?_
              rintro e W9 ⟨nd, f, rfl, hg9, ho9⟩
              obtain rfl := getP_found HOK.out HPX.out hg9
              have ho10 := (hoi.trans_nil ho9).alloc (.cells (ndCells nd) 29)
              have hcx9 := (ho9.cell (p := ⟨gl, j, none⟩) (Nat.lt_of_lt_of_le hgl hoi.size) (by simp)).trans hcx'
              clear hci hli hcx' hg9
              unfold Node.val
              dsimp only
              by_cases hj0 : j = 0
              · have hjz : ¬ ((0 : Int) < (j : Int)) := by omega
                have hjz' : ¬ (0 < j) := by omega
                have HJ0 := Lib.hid hj0
                clear hj0
                go_wp2_with fail
                refine ⟨⟨j + 1, by congr 1, by first | (congr 1; done) | (congr 1; push_cast; omega), by omega, ho10⟩, ?_⟩
                simp only [intOf]; omega
              · obtain ⟨i, rfl⟩ : ∃ i, j = i + 1 := ⟨j - 1, by omega⟩
                obtain ⟨y, hy⟩ := HPREV.out i rfl
                obtain ⟨gl', egl, hgl', hcy⟩ := HSTR.out i y hy
                injection egl with egl
                injection egl with egl _ _
                subst egl
                have hcy9 := (ho9.cell (p := ⟨gl, i, none⟩) (Nat.lt_of_lt_of_le hgl hoi.size) (by simp)).trans ((hoi.cell (p := ⟨gl, i, none⟩) hgl (by simp)).trans hcy)
                have hless := rise_at HRISE.out hy HXI.out
                have hi0 : (0 : Int) ≤ (i : Int) := by omega
                have hi1 : (i : Int) < (m : Int) := by omega
                have him : i < m := by omega
                have hgl9 : gl < W9.heap.size := Nat.lt_of_lt_of_le (Nat.lt_of_lt_of_le hgl hoi.size) ho9.size
                clear hy hcy hgl' hj0 hgl
                go_wp2_with fail
                refine ⟨⟨i + 1 + 1, by congr 1, by first | (congr 1; done) | (congr 1; push_cast; omega), by omega, ho10⟩, ?_⟩
                simp only [intOf]; omega
          · obtain rfl : j = m := by omega
            go_wp2_with fail
            refine ⟨⟨k + 1, cnt + j, by push_cast; rfl, rfl, by omega, by omega, ho6b.trans_nil hoi, Lib.hid ?_⟩, ?_⟩
            · rw [HCS.out, hcnt.out]
              have h1 := congrArg List.length HL.out
              rw [HM.out] at h1
              show cntN t k + j = cntN t k + (namesR t (str d.path)).length
              omega
            · simp only [intOf]; omega
      · have hkb : (d.kind == 2) = false := beq_eq_false_iff_ne.2 hkd
        have hm0 : m = 0 := HFILE2.out hkd
        have HM0 := Lib.hid hm0
        have hmle : m ≤ 0 := by omega
        have HKD := Lib.hid hkd
        clear hkd hm0
        go_wp2_with fail
        go_loopw [44, 3] (fun y c wi => ∃ j : Nat, y = .int .i64 j ∧ c = .int .i64 ((cnt + j : Nat) : Int) ∧ j ≤ m ∧ Off [] Wb wi) (fun y _ _ => m - (intOf y).toNat)
        case atStart => exact ⟨0, rfl, rfl, by omega, Off.refl _ _⟩
        case round =>
          obtain ⟨j, rfl, rfl, hj, hoi⟩ := hrel
          obtain rfl : j = m := by omega
          go_wp2_with fail
          refine ⟨⟨k + 1, cnt + j, by push_cast; rfl, rfl, by omega, by omega, ho6b.trans_nil hoi, Lib.hid ?_⟩, ?_⟩
          · rw [HCS.out, hcnt.out]
            have h1 := congrArg List.length HL.out
            rw [HM.out] at h1
            show cntN t k + j = cntN t k + (namesR t (str d.path)).length
            omega
          · simp only [intOf]; omega
    · obtain rfl : k = n + 1 := by omega
      have hfin : cnt = n := by rw [hcnt.out, ← HN.out, cntN_all HOK.out]
      have HFN := Lib.hid hfin
      clear hfin
      have hfi : ((cnt : Int) == (n : Int)) = true := beq_iff_eq.2 (by have := HFN.out; omega)
      go_wp2_with fail
      go_ret
      exact ⟨rfl, HO6.out.trans_nil ho6⟩
set_option maxRecDepth 100000 in
set_option maxHeartbeats 8000000 in
theorem treeNames_none (t : List Node) (n cap : Nat) (h0 : n = 0) (hc0 : cap = 0) (w : World) (hR : Row w none t) (hn : t.length = n) (hcap : n ≤ cap) (hF : Fits t) (hT : Tabs w) (hok : okTree t = true) :
    Calls Tryd.prog 3 #[.slice none n cap] w fun e w' => e = .returned (.bool true) ∧ Off [] w w' := by
  have hlen : n ≤ 1000 := by rw [← hn]; exact okTree_len hok
  have hbig : n ≤ maxLen := by unfold maxLen; omega
  have HN := Lib.hid hn
  have HR := Lib.hid hR
  have HF := Lib.hid hF
  have HOK := Lib.hid hok
  obtain ⟨i0, hi, hz0, hz1, hz2⟩ := info_parts infoNode
  have H0 := Lib.hid h0
  have HC0 := Lib.hid hc0
  clear h0 hc0
  clear hn hR hF hok
  go_enter Tryd.func3, Tryd.ntmps3
  go_wp2_with fail
  refine (awake_any _ hT).mono ?_
  rintro e w1 ⟨rfl, ho1⟩
  go_wp2_with fail
  refine (check_v none t n cap _ (HR.out.off ho1) HN.out hcap hbig HF.out (hT.off ho1) 0 (chkV_ok HOK.out)).mono ?_
  rintro e w2 ⟨rfl, ho2⟩
  have ho := ho1.trans_nil ho2
  have HRB := Lib.hid ((HR.out.off ho).off ((Off.refl [] w2).alloc (.cells rootC 29)))
  have HOB := Lib.hid (ho.alloc (.cells rootC 29))
  clear ho1 ho2
  have hsz2 := ho.size
  have hown0 : (w2.alloc (.cells rootC 29)).ownsRow w2.heap.size 29 4 (.slice (some ⟨w2.heap.size, 0, none⟩) 1 1) 1 (ndL rootN) :=
    ⟨rfl, .inr ⟨w2.heap.size, 1, rootC, rfl, Nat.le_refl _, heap_alloc_new w2 _, Nat.le_refl _, by decide, rfl, rfl⟩⟩
  have hR6 : Row (w2.alloc (.cells rootC 29)) (some ⟨w2.heap.size, 0, none⟩) (rootN :: t) := by
    have ht : t = [] := List.length_eq_zero_iff.1 (HN.out.trans H0.out)
    subst ht
    refine row_blk (Blk.new w2 29 rootC) fun i n h => ?_
    match i, h with
    | 0, h => cases h; exact ⟨rfl, rfl, rfl, rfl⟩
    | i + 1, h => simp at h
  have HR6 := Lib.hid hR6
  have HO6 := HOB
  clear ho hR6
  unfold rootC at hown0 HR6 HO6
  go_wp2_with (at_builtin; refine wpList_append_own_none rfl _ _ 22 rfl w2.heap.size 29 i0 4 Tryd.underlying22 hi _ _ _ rfl hown0 (by show Value.slice none n cap = _; rw [H0.out, HC0.out]) ?_; clear hown0)
  generalize w2.alloc (.cells #[.string ⟨#[]⟩, .int .i64 2, .string ⟨#[]⟩, .int .i64 0] 29) = W6 at *
  generalize w2.heap.size = g6 at *
  clear hz0 hz1 hz2 hi
  go_loopw [26, 3] (fun x c wr => ∃ k cnt : Nat, x = .int .i64 k ∧ c = .int .i64 cnt ∧ k ≤ n + 1 ∧ cnt ≤ n ∧ Off [] W6 wr ∧ Hid (cnt = cntN t k)) (fun x _ _ => n + 1 - (intOf x).toNat)
  case atStart => exact ⟨0, 0, rfl, rfl, by omega, by omega, Off.refl _ _, Lib.hid rfl⟩
  case round =>
    obtain ⟨k, cnt, rfl, rfl, hk, hcn, ho6, hcnt⟩ := hrel
    by_cases hkn : k < n + 1
    · have hk1 : k < 1 := by have := H0.out; omega
      have hkl : k < (rootN :: t).length := by rw [List.length_cons, HN.out]; exact hkn
      obtain ⟨a6, ea6, hna, hab⟩ := (HR6.out.off ho6).get k hkl
      have ea6 := Option.some.inj ea6
      subst ea6
      have HCS := Lib.hid (cntN_succ hkl)
      have hmem : (rootN :: t)[k] = rootN ∨ (rootN :: t)[k] ∈ t := List.mem_cons.1 (List.getElem_mem hkl)
      generalize (rootN :: t)[k] = d at *
      have hds : d.path.size ≤ 400 := by
        rcases hmem with rfl | hm
        · decide
        · exact okTree_small HOK.out hm
      have hfile : d.kind ≠ 2 → (namesR t (str d.path)).length = 0 := fun hne => by
        rcases hmem with rfl | hm
        · exact absurd rfl hne
        · rw [show namesR t (str d.path) = [] from names_file HOK.out hm hne]; rfl
      have HFILE := Lib.hid hfile
      have c0 := hna.path
      have c1 := hna.kind
      have c2 := hna.data
      have c3 := hna.mode
      rw [addr_add] at c0 c1 c2 c3
      dsimp only at c1 c2 c3 hab
      clear hna hmem hfile
      go_wp2_with fail
      have ho7 := (HO6.out.trans_nil ho6).alloc (.cells (ndCells d) 29)
      refine (names_any none t n cap d.path _ (((HR.out.off HO6.out).off ho6).off ((Off.refl [] wr).alloc (.cells (ndCells d) 29))) HN.out hcap hbig HF.out (by unfold maxLen; omega) (hT.off ho7)).mono ?_
      rintro e Wb ⟨v, rfl, hown, ho8⟩
      have hBb := (Blk.new wr 29 (ndCells d)).off ho8 (by simp)
      have hoWb := ho7.trans_nil ho8
      have ho6b := (ho6.alloc (.cells (ndCells d) 29)).trans_nil ho8
      unfold ndCells at hBb
      have hcb := hBb.cell
      have hlb := hBb.lt
      have HBB := Lib.hid hBb
      have hml := names_len t (str d.path)
      rw [HN.out] at hml
      obtain ⟨pl, capl, rfl, hstr⟩ := own_strs hown
      have HSTR := Lib.hid hstr
      have HRISE := Lib.hid (names_rise HOK.out (str d.path))
      have HFND := Lib.hid (fun (x : ByteArray) (hx : x ∈ namesR t (str d.path)) => names_found HOK.out hx)
      have HSM := Lib.hid (fun (x : ByteArray) (hx : x ∈ namesR t (str d.path)) => names_small HOK.out hx)
      have hcl : cnt + (namesR t (str d.path)).length ≤ n := by
        have h1 := cntN_le HOK.out (k + 1) (by rw [HN.out]; omega)
        rw [HCS.out, ← hcnt.out, HN.out] at h1
        exact h1
      clear hown hstr hBb ho7 ho8 c0 c1 c2 c3 hab
      generalize hL : namesR t (str d.path) = L at *
      have HL := Lib.hid hL
      obtain ⟨m, hm⟩ : ∃ m, L.length = m := ⟨_, rfl⟩
      rw [hm] at hml hcl
      have HM := Lib.hid hm
      have HFILE2 := Lib.hid (fun h => hm ▸ HFILE.out h)
      clear hL hm HFILE
      rw [HM.out]
      have key : ∀ b : Bool, b = decide (d.kind = 2) → b = false → m = 0 := fun b h1 h2 => HFILE2.out (by rw [h2] at h1; exact of_decide_eq_false h1.symm)
      have KEY := Lib.hid key
      clear key
      by_cases hkd : d.kind = 2
      · have hkb : (d.kind == 2) = true := beq_iff_eq.2 hkd
        have HKD := Lib.hid hkd
        clear hkd
        go_wp2_with fail
        go_loopw [44, 3] (fun y c wi => ∃ j : Nat, y = .int .i64 j ∧ c = .int .i64 ((cnt + j : Nat) : Int) ∧ j ≤ m ∧ Off [] Wb wi) (fun y _ _ => m - (intOf y).toNat)
        case atStart => exact ⟨0, rfl, rfl, by omega, Off.refl _ _⟩
        case round =>
          obtain ⟨j, rfl, rfl, hj, hoi⟩ := hrel
          by_cases hjm : j < m
          · have hjl : j < L.length := by rw [HM.out]; exact hjm
            have hxi := List.getElem?_eq_getElem hjl
            have HMEM := Lib.hid (List.getElem_mem hjl)
            have HPREV := Lib.hid (fun (i : Nat) (hi : i + 1 = j) => show ∃ y, L[i]? = some y from ⟨_, List.getElem?_eq_getElem (show i < L.length by omega)⟩)
            generalize L[j] = x at *
            obtain ⟨gl, rfl, hgl, hcx⟩ := HSTR.out j x hxi
            have hxs := HSM.out x HMEM.out
            obtain ⟨fm, hfm, hfp⟩ := HFND.out x HMEM.out
            have HFM := Lib.hid hfm
            have HFP := Lib.hid hfp
            have HXI := Lib.hid hxi
            have hcx' := (hoi.cell (p := ⟨gl, j, none⟩) hgl (by simp)).trans hcx
            have hbi := HBB.out.off hoi (by simp)
            have hci := hbi.cell
            have hli := hbi.lt
            clear hbi hcx hfm hfp hxi hcb hlb
            have hoWi := hoWb.trans_nil hoi
            have HRI := Lib.hid (HR.out.off hoWi)
            have HTI := Lib.hid (hT.off hoWi)
            by_cases hd0 : str d.path = []
            · have g1 : d.path.toList = [] := by rw [toList_str]; exact hd0
              have g2 : d.path.toList.isEmpty = true := by simp [g1]
              have HPX := Lib.hid (show ∃ q ∈ t, q.p = str x from ⟨fm, HFM.out, by have := HFP.out; rw [if_pos hd0] at this; exact this⟩)
              clear hd0
              go_wp2_with fail
              refine (get_any none t n cap x _ HRI.out HN.out hcap hbig HF.out (by unfold maxLen; omega) HTI.out).mono ?_
              rintro e W9 ⟨nd, f, rfl, hg9, ho9⟩
              obtain rfl := getP_found HOK.out HPX.out hg9
              have ho10 := (hoi.trans_nil ho9).alloc (.cells (ndCells nd) 29)
              have hcx9 := (ho9.cell (p := ⟨gl, j, none⟩) (Nat.lt_of_lt_of_le hgl hoi.size) (by simp)).trans hcx'
              clear hci hli hcx' hg9
              unfold Node.val
              dsimp only
              by_cases hj0 : j = 0
              · have hjz : ¬ ((0 : Int) < (j : Int)) := by omega
                have hjz' : ¬ (0 < j) := by omega
                have HJ0 := Lib.hid hj0
                clear hj0
                go_wp2_with fail
                refine ⟨⟨j + 1, by congr 1, by first | (congr 1; done) | (congr 1; push_cast; omega), by omega, ho10⟩, ?_⟩
                simp only [intOf]; omega
              · obtain ⟨i, rfl⟩ : ∃ i, j = i + 1 := ⟨j - 1, by omega⟩
                obtain ⟨y, hy⟩ := HPREV.out i rfl
                obtain ⟨gl', egl, hgl', hcy⟩ := HSTR.out i y hy
                injection egl with egl
                injection egl with egl _ _
                subst egl
                have hcy9 := (ho9.cell (p := ⟨gl, i, none⟩) (Nat.lt_of_lt_of_le hgl hoi.size) (by simp)).trans ((hoi.cell (p := ⟨gl, i, none⟩) hgl (by simp)).trans hcy)
                have hless := rise_at HRISE.out hy HXI.out
                have hi0 : (0 : Int) ≤ (i : Int) := by omega
                have hi1 : (i : Int) < (m : Int) := by omega
                have him : i < m := by omega
                have hgl9 : gl < W9.heap.size := Nat.lt_of_lt_of_le (Nat.lt_of_lt_of_le hgl hoi.size) ho9.size
                clear hy hcy hgl' hj0 hgl
                go_wp2_with fail
                refine ⟨⟨i + 1 + 1, by congr 1, by first | (congr 1; done) | (congr 1; push_cast; omega), by omega, ho10⟩, ?_⟩
                simp only [intOf]; omega
            · have g1 : ¬ d.path.toList = [] := by rw [toList_str]; exact hd0
              have g2 : d.path.toList.isEmpty = false := by simpa using g1
              have hpx : ∃ q ∈ t, q.p = str (d.path ++ ⟨#[47]⟩ ++ x) := ⟨fm, HFM.out, by have := HFP.out; rw [if_neg hd0] at this; rw [this, str_append, str_append]; simp [str]⟩
              have a1 : ∀ wx : World, (Op.stringOp .add d.path ⟨#[47]⟩).run Tryd.prog wx = .ok (.string (d.path ++ ⟨#[47]⟩)) wx := fun wx => run_string_add_sum wx _ _ (by show d.path.size + 1 ≤ _; omega)
              have a2 : ∀ wx : World, (Op.stringOp .add (d.path ++ ⟨#[47]⟩) x).run Tryd.prog wx = .ok (.string (d.path ++ ⟨#[47]⟩ ++ x)) wx := fun wx => run_string_add_sum wx _ _ (by rw [ByteArray.size_append]; show d.path.size + 1 + x.size ≤ _; omega)
              have hsq : (d.path ++ ⟨#[47]⟩ ++ x).size ≤ maxLen := by rw [ByteArray.size_append, ByteArray.size_append]; unfold maxLen; show d.path.size + 1 + x.size ≤ _; omega
              obtain ⟨q1, hq1⟩ : ∃ q1, d.path ++ ⟨#[47]⟩ = q1 := ⟨_, rfl⟩
              rw [hq1] at a1 a2 hsq hpx
              clear hq1
              obtain ⟨q, hq⟩ : ∃ q, q1 ++ x = q := ⟨_, rfl⟩
              rw [hq] at a2 hsq hpx
              clear hq
              have HPX := Lib.hid hpx
              clear hd0 hpx
              go_wp2_with fail
              refine (get_any none t n cap q _ HRI.out HN.out hcap hbig HF.out hsq HTI.out).mono ?_
              rintro e W9 ⟨nd, f, rfl, hg9, ho9⟩
              obtain rfl := getP_found HOK.out HPX.out hg9
              have ho10 := (hoi.trans_nil ho9).alloc (.cells (ndCells nd) 29)
              have hcx9 := (ho9.cell (p := ⟨gl, j, none⟩) (Nat.lt_of_lt_of_le hgl hoi.size) (by simp)).trans hcx'
              clear hci hli hcx' hg9
              unfold Node.val
              dsimp only
              by_cases hj0 : j = 0
              · have hjz : ¬ ((0 : Int) < (j : Int)) := by omega
                have hjz' : ¬ (0 < j) := by omega
                have HJ0 := Lib.hid hj0
                clear hj0
                go_wp2_with fail
                refine ⟨⟨j + 1, by congr 1, by first | (congr 1; done) | (congr 1; push_cast; omega), by omega, ho10⟩, ?_⟩
                simp only [intOf]; omega
              · obtain ⟨i, rfl⟩ : ∃ i, j = i + 1 := ⟨j - 1, by omega⟩
                obtain ⟨y, hy⟩ := HPREV.out i rfl
                obtain ⟨gl', egl, hgl', hcy⟩ := HSTR.out i y hy
                injection egl with egl
                injection egl with egl _ _
                subst egl
                have hcy9 := (ho9.cell (p := ⟨gl, i, none⟩) (Nat.lt_of_lt_of_le hgl hoi.size) (by simp)).trans ((hoi.cell (p := ⟨gl, i, none⟩) hgl (by simp)).trans hcy)
                have hless := rise_at HRISE.out hy HXI.out
                have hi0 : (0 : Int) ≤ (i : Int) := by omega
                have hi1 : (i : Int) < (m : Int) := by omega
                have him : i < m := by omega
                have hgl9 : gl < W9.heap.size := Nat.lt_of_lt_of_le (Nat.lt_of_lt_of_le hgl hoi.size) ho9.size
                clear hy hcy hgl' hj0 hgl
                go_wp2_with fail
                refine ⟨⟨i + 1 + 1, by congr 1, by first | (congr 1; done) | (congr 1; push_cast; omega), by omega, ho10⟩, ?_⟩
                simp only [intOf]; omega
          · obtain rfl : j = m := by omega
            go_wp2_with fail
            refine ⟨⟨k + 1, cnt + j, by push_cast; rfl, rfl, by omega, by omega, ho6b.trans_nil hoi, Lib.hid ?_⟩, ?_⟩
            · rw [HCS.out, hcnt.out]
              have h1 := congrArg List.length HL.out
              rw [HM.out] at h1
              show cntN t k + j = cntN t k + (namesR t (str d.path)).length
              omega
            · simp only [intOf]; omega
      · have hkb : (d.kind == 2) = false := beq_eq_false_iff_ne.2 hkd
        have hm0 : m = 0 := HFILE2.out hkd
        have HM0 := Lib.hid hm0
        have hmle : m ≤ 0 := by omega
        have HKD := Lib.hid hkd
        clear hkd hm0
        go_wp2_with fail
        go_loopw [44, 3] (fun y c wi => ∃ j : Nat, y = .int .i64 j ∧ c = .int .i64 ((cnt + j : Nat) : Int) ∧ j ≤ m ∧ Off [] Wb wi) (fun y _ _ => m - (intOf y).toNat)
        case atStart => exact ⟨0, rfl, rfl, by omega, Off.refl _ _⟩
        case round =>
          obtain ⟨j, rfl, rfl, hj, hoi⟩ := hrel
          obtain rfl : j = m := by omega
          go_wp2_with fail
          refine ⟨⟨k + 1, cnt + j, by push_cast; rfl, rfl, by omega, by omega, ho6b.trans_nil hoi, Lib.hid ?_⟩, ?_⟩
          · rw [HCS.out, hcnt.out]
            have h1 := congrArg List.length HL.out
            rw [HM.out] at h1
            show cntN t k + j = cntN t k + (namesR t (str d.path)).length
            omega
          · simp only [intOf]; omega
    · obtain rfl : k = n + 1 := by omega
      have hfin : cnt = n := by rw [hcnt.out, ← HN.out, cntN_all HOK.out]
      have HFN := Lib.hid hfin
      clear hfin
      have hfi : ((cnt : Int) == (n : Int)) = true := beq_iff_eq.2 (by have := HFN.out; omega)
      go_wp2_with fail
      go_ret
      exact ⟨rfl, HO6.out.trans_nil ho6⟩
end Go.Proofs.YtpaeihdkggbeoaaDoor
