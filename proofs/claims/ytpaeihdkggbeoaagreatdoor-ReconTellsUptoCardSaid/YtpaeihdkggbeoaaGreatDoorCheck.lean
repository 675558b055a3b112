/- tree.Check: the walk. Conditions: the tables of unicode/utf8 are laid; no string is longer than Go's can be. -/
import Derived.Test.YtpaeihdkggbeoaaGreatDoorPlace
import Derived.Test.YtpaeihdkggbeoaaGreatDoorExt
namespace Go.Proofs.YtpaeihdkggbeoaaGreatDoor
open Go.RowKit Go.Op

theorem okFrom_snoc (n : Node) : ∀ (l done : List Node), okFrom done (l ++ [n]) = (okFrom done l && okNext (done ++ l) n)
  | [], done => by simp [okFrom]
  | m :: l, done => by
    have := okFrom_snoc n l (done ++ [m])
    simp only [List.cons_append, okFrom, this]
    rw [Bool.and_assoc]
    simp
theorem okFrom_take_succ {t : List Node} {k : Nat} (hk : k < t.length) (h : okFrom [] (t.take k) = true) (hn : okNext (t.take k) t[k] = true) : okFrom [] (t.take (k + 1)) = true := by
  rw [List.take_succ_eq_append_getElem hk, okFrom_snoc, h, List.nil_append, hn]; rfl
theorem okTree_bad {t : List Node} {k : Nat} (hk : k < t.length) (hn : okNext (t.take k) t[k] = false) : okTree t = false := by
  cases h : okTree t
  · rfl
  · rw [okTree_next h k hk] at hn; cases hn
def ndCells (n : Node) : Array Value := #[.string n.path, .int .i64 n.kind, .string n.data, .int .i64 n.mode]
/-- what holds while a node is looked at -/
def ChkS (W : World) (b : Nat) (nd : Node) (pa : Addr) (pv : ByteArray) (w : World) : Prop :=
  Off [] W w ∧ (b < w.heap.size ∧ pa.block < w.heap.size) ∧ (∀ i, w.cell? ⟨b, i, none⟩ = (ndCells nd)[i]?) ∧ w.cell? pa = some (.string pv)
theorem chk_keep {W wa wb : World} {b : Nat} {cs : Array Value} {pa : Addr} {v : Value} (ho : Off [] wa wb)
    (h : Off [] W wa ∧ (b < wa.heap.size ∧ pa.block < wa.heap.size) ∧ (∀ i, wa.cell? ⟨b, i, none⟩ = cs[i]?) ∧ wa.cell? pa = some v) :
    Off [] W wb ∧ (b < wb.heap.size ∧ pa.block < wb.heap.size) ∧ (∀ i, wb.cell? ⟨b, i, none⟩ = cs[i]?) ∧ wb.cell? pa = some v :=
  ⟨h.1.trans_nil ho, ⟨Nat.lt_of_lt_of_le h.2.1.1 ho.size, Nat.lt_of_lt_of_le h.2.1.2 ho.size⟩, fun i => (ho.cell (p := ⟨b, i, none⟩) h.2.1.1 (by simp)).trans (h.2.2.1 i), (ho.cell h.2.1.2 (by simp)).trans h.2.2.2⟩

theorem path_v (s : ByteArray) (w : World) (hT : Tabs w) (v : Bool) (hv : okPath (str s) = v) : Calls Tryz.prog 29 #[.string s] w fun e w' => e = .returned (.bool v) ∧ Off [] w w' := hv ▸ path_any s w hT
theorem right_v (n : Node) (w : World) (v : Bool) (hv : rightN n = v) : Calls Tryz.prog 45 #[.agg #[.string n.path, .int .i64 n.kind, .string n.data, .int .i64 n.mode]] w fun e w' => e = .returned (.bool v) ∧ Off [] w w' := hv ▸ right_any n w
theorem order_v (a b : ByteArray) (w : World) (ha : a.size ≤ maxLen) (hb : b.size ≤ maxLen) (c : Int) (hc : order (str a) (str b) = c) : Calls Tryz.prog 33 #[.string a, .string b] w fun e w' => e = .returned (.int .i64 c) ∧ Off [] w w' := hc ▸ order_any a b w ha hb
theorem dir_v (p : Option Addr) (t : List Node) (n cap : Nat) (s : ByteArray) (w : World) (hR : Row w p t) (hn : t.length = n) (hbig : n < 4611686018427387904) (hs : Sorted t) (hF : Fits t) (hsz : s.size ≤ maxLen) (v : Bool) (hv : isDir t (str s) = v) :
    Calls Tryz.prog 46 #[.slice p n cap, .string s] w fun e w' => e = .returned (.bool v) ∧ Off [] w w' := hv ▸ dir_any p t n cap s w hR hn hbig hs hF hsz
theorem Fits.take {t : List Node} (h : Fits t) (k : Nat) : Fits (t.take k) := fun n hn => h n (List.mem_of_mem_take hn)
theorem bs_parent_size (s : ByteArray) : (bs (parent (str s))).size ≤ s.size := by
  rw [bs_size]
  unfold parent
  split
  · rcases last_cases s with ⟨_, hn⟩ | ⟨i, _, hi, hc, hn⟩
    · rw [parts_clean _ hn]; simp [joinP]
    · rw [parts_last hc hn, List.dropLast_concat, joinP_parts]; simp; omega
  · simp
/-- what Check answers -/
def chkV (t : List Node) : Int := if okTree t then 0 else 60
def lastOk (done : List Node) (n : Node) : Bool := match done.getLast? with | none => true | some m => decide (order m.p n.p < 0)
theorem okNext_eq (done : List Node) (n : Node) : okNext done n = (okPath n.p && rightN n && lastOk done n && isDir done (parent n.p)) := rfl
theorem lastOk_some {done : List Node} {n m : Node} (h : done.getLast? = some m) : lastOk done n = decide (order m.p n.p < 0) := by unfold lastOk; rw [h]
theorem lastOk_none {done : List Node} {n : Node} (h : done.getLast? = none) : lastOk done n = true := by unfold lastOk; rw [h]
theorem okNext_of {done : List Node} {n : Node} (v1 v2 v4 : Bool) (h1 : okPath (str n.path) = v1) (h2 : v1 = true → rightN n = v2) (h3 : v1 = true → v2 = true → lastOk done n = true) (h4 : v1 = true → v2 = true → isDir done (parent (str n.path)) = v4) :
    okNext done n = (v1 && v2 && v4) := by
  rw [okNext_eq]
  have e1 : okPath n.p = v1 := h1
  rw [e1]
  cases v1
  · rfl
  · rw [h2 rfl]
    cases v2
    · rfl
    · have e4 : isDir done (parent n.p) = v4 := h4 rfl rfl
      rw [h3 rfl rfl, e4]; rfl
set_option maxRecDepth 100000 in
set_option maxHeartbeats 4000000 in
theorem check_any (p : Option Addr) (t : List Node) (n cap : Nat) (w : World) (hR : Row w p t) (hn : t.length = n) (hcap : n ≤ cap) (hbig : n ≤ maxLen) (hF : Fits t) (hT : Tabs w) :
    Calls Tryz.prog 28 #[.slice p n cap] w fun e w' => e = .returned (.int .i64 (chkV t)) ∧ Off [] w w' := by
  have HN := Lib.hid hn
  have HR := Lib.hid hR
  have HF := Lib.hid hF
  clear hn hR hF
  unfold maxLen at hbig
  by_cases hlen : n ≤ 1000
  · go_enter Tryz.func28, Tryz.ntmps28
    go_wp2_with fail
    go_loopw [10] (fun x wr => ∃ k : Nat, x = .int .i64 k ∧ k ≤ n ∧ Off [] w wr ∧ Hid (okFrom [] (t.take k) = true)) (fun x _ => n - (intOf x).toNat)
    case atStart => exact ⟨0, rfl, by omega, Off.refl _ _, Lib.hid (by simp [okFrom])⟩
    case round =>
      obtain ⟨k, rfl, hk, ho, hok⟩ := hrel
      by_cases hkn : k < n
      · have hkl : k < t.length := by rw [HN.out]; omega
        obtain ⟨a, rfl, hna, hab⟩ := (HR.out.off ho).get k hkl
        have hfit := HF.out _ (List.getElem_mem hkl)
        have HBAD := Lib.hid (fun h => okTree_bad (t := t) hkl h)
        have HGOOD := Lib.hid (fun h => okFrom_take_succ hkl hok.out h)
        have HSO := Lib.hid (show Sorted (t.take k) by simpa using okFrom_sorted (t := t.take k) (done := []) List.Pairwise.nil hok.out)
        have HTL := Lib.hid (show (t.take k).length = k by rw [List.length_take]; omega)
        have HFT := Lib.hid (HF.out.take k)
        have HRT := Lib.hid (HR.out.take k)
        generalize hnd : t[k] = nd at *
        have c0 := hna.path
        have c1 := hna.kind
        have c2 := hna.data
        have c3 := hna.mode
        have hcapk : k ≤ cap := by omega
        clear hna hnd
        have hb0 : Off [] w (wr.alloc (.cells (ndCells nd) 40)) := ho.alloc _
        have hb1 : Blk (wr.alloc (.cells (ndCells nd) 40)) wr.heap.size 40 (ndCells nd) := Blk.new wr 40 (ndCells nd)
        have HB := Lib.hid (And.intro hb0 hb1)
        clear hb0 hb1
        cases hv1 : okPath (str nd.path)
        · have HV1 := Lib.hid hv1
          clear hv1
          go_wp2_with fail
          refine code_gen (fun W => Off [] w W ∧ Blk W wr.heap.size 40 (ndCells nd)) HB.out ?_
          rintro W ⟨hoW, hbW⟩
          unfold ndCells at hbW
          have hcW := hbW.cell
          have hlW := hbW.lt
          clear hbW
          have hx := fun (x : World) (p : Addr) (hp : p.block < W.heap.size) => ext_cell hp x
          refine wp_region_ext (by kernel_rfl) (by kernel_rfl) ?_
          repeat (go_big_quiet_step (first
            | (go_at_call 29; exact Calls.ext_of (path_v nd.path _ (hT.off (hoW.trans_nil (ext_off W _))) false HV1.out))))
          refine wpQuiet_nil ?_
          rintro W2 ⟨x, rfl⟩
          have hoE := hoW.trans_nil (ext_off W x)
          clear hx hcW hlW
          generalize ext W x = W2 at *
          go_wp2_with fail
          go_ret
          exact ⟨by rw [chkV, HBAD.out (okNext_of false true true HV1.out (fun h => by cases h) (fun h => by cases h) (fun h => by cases h))]; rfl, hoE⟩
        · have hsz : nd.path.size ≤ 400 := by rw [← str_size]; exact okPath_size hv1
          have hpsz : (bs (parent (str nd.path))).size ≤ maxLen := by have := bs_parent_size nd.path; unfold maxLen; omega
          have HV1 := Lib.hid hv1
          clear hv1
          cases hv2 : rightN nd
          · have HV2 := Lib.hid hv2
            clear hv2
            go_wp2_with fail
            refine code_gen (fun W => Off [] w W ∧ Blk W wr.heap.size 40 (ndCells nd)) HB.out ?_
            rintro W ⟨hoW, hbW⟩
            unfold ndCells at hbW
            have hcW := hbW.cell
            have hlW := hbW.lt
            clear hbW
            have hx := fun (x : World) (p : Addr) (hp : p.block < W.heap.size) => ext_cell hp x
            refine wp_region_ext (by kernel_rfl) (by kernel_rfl) ?_
            repeat (go_big_quiet_step (first
              | (go_at_call 29; exact Calls.ext_of (path_v nd.path _ (hT.off (hoW.trans_nil (ext_off W _))) true HV1.out))
              | (go_at_call 45; exact Calls.ext_of (right_v nd _ false HV2.out))))
            refine wpQuiet_nil ?_
            rintro W2 ⟨x, rfl⟩
            have hoE := hoW.trans_nil (ext_off W x)
            clear hx hcW hlW
            generalize ext W x = W2 at *
            go_wp2_with fail
            go_ret
            exact ⟨by rw [chkV, HBAD.out (okNext_of true false true HV1.out (fun _ => HV2.out) (fun _ h => by cases h) (fun _ h => by cases h))]; rfl, hoE⟩
          · have HV2 := Lib.hid hv2
            clear hv2
            have hv4' : ∀ v, isDir (t.take k) (parent (str nd.path)) = v → isDir (t.take k) (str (bs (parent (str nd.path)))) = v := fun v h => by rw [str_bs]; exact h
            by_cases hk0 : k = 0
            · have H3 := Lib.hid (show lastOk (t.take k) nd = true from lastOk_none (by rw [hk0]; simp))
              have hkz : ¬ ((0 : Int) < (k : Int)) := by omega
              have hkz' : ¬ (0 < k) := by omega
              have HK0 := Lib.hid hk0
              clear hk0
              cases hv4 : isDir (t.take k) (parent (str nd.path))
              · have HV4 := Lib.hid (hv4' _ hv4)
                have HV4o := Lib.hid hv4
                clear hv4 hv4'
                go_wp2_with fail
                refine code_gen (fun W => Off [] w W ∧ Blk W wr.heap.size 40 (ndCells nd)) HB.out ?_
                rintro W ⟨hoW, hbW⟩
                unfold ndCells at hbW
                have hcW := hbW.cell
                have hlW := hbW.lt
                clear hbW
                have hx := fun (x : World) (p : Addr) (hp : p.block < W.heap.size) => ext_cell hp x
                refine wp_region_ext (by kernel_rfl) (by kernel_rfl) ?_
                repeat (go_big_quiet_step (first
                  | (go_at_call 29; exact Calls.ext_of (path_v nd.path _ (hT.off (hoW.trans_nil (ext_off W _))) true HV1.out))
                  | (go_at_call 45; exact Calls.ext_of (right_v nd _ true HV2.out))
                  | (go_at_call 47; exact Calls.ext_of (parent_any nd.path _ (by omega) (hT.off (hoW.trans_nil (ext_off W _)))))
                  | (go_at_call 46; exact Calls.ext_of (dir_v (some a) (t.take k) k cap (bs (parent (str nd.path))) _ (HRT.out.off (hoW.trans_nil (ext_off W _))) HTL.out (by omega) HSO.out HFT.out hpsz false HV4.out))))
                refine wpQuiet_nil ?_
                rintro W2 ⟨x, rfl⟩
                have hoE := hoW.trans_nil (ext_off W x)
                clear hx hcW hlW
                generalize ext W x = W2 at *
                go_wp2_with fail
                go_ret
                exact ⟨by rw [chkV, HBAD.out (okNext_of true true false HV1.out (fun _ => HV2.out) (fun _ _ => H3.out) (fun _ _ => HV4o.out))]; rfl, hoE⟩
              · have HV4 := Lib.hid (hv4' _ hv4)
                have HV4o := Lib.hid hv4
                clear hv4 hv4'
                go_wp2_with fail
                refine code_gen (fun W => Off [] w W ∧ Blk W wr.heap.size 40 (ndCells nd)) HB.out ?_
                rintro W ⟨hoW, hbW⟩
                unfold ndCells at hbW
                have hcW := hbW.cell
                have hlW := hbW.lt
                clear hbW
                have hx := fun (x : World) (p : Addr) (hp : p.block < W.heap.size) => ext_cell hp x
                refine wp_region_ext (by kernel_rfl) (by kernel_rfl) ?_
                repeat (go_big_quiet_step (first
                  | (go_at_call 29; exact Calls.ext_of (path_v nd.path _ (hT.off (hoW.trans_nil (ext_off W _))) true HV1.out))
                  | (go_at_call 45; exact Calls.ext_of (right_v nd _ true HV2.out))
                  | (go_at_call 47; exact Calls.ext_of (parent_any nd.path _ (by omega) (hT.off (hoW.trans_nil (ext_off W _)))))
                  | (go_at_call 46; exact Calls.ext_of (dir_v (some a) (t.take k) k cap (bs (parent (str nd.path))) _ (HRT.out.off (hoW.trans_nil (ext_off W _))) HTL.out (by omega) HSO.out HFT.out hpsz true HV4.out))))
                refine wpQuiet_nil ?_
                rintro W2 ⟨x, rfl⟩
                have hoE := hoW.trans_nil (ext_off W x)
                clear hx hcW hlW
                generalize ext W x = W2 at *
                go_wp2_with fail
                exact ⟨⟨k + 1, rfl, by omega, hoE, Lib.hid (HGOOD.out (okNext_of true true true HV1.out (fun _ => HV2.out) (fun _ _ => H3.out) (fun _ _ => HV4o.out)))⟩, by simp only [intOf]; omega⟩
            · obtain ⟨j, rfl⟩ : ∃ j, k = j + 1 := ⟨k - 1, by omega⟩
              clear hk0
              have hjl : j < t.length := by omega
              obtain ⟨a', ea, hnp, hblk⟩ := HR.out.get j hjl
              have ea : a' = a := (Option.some.inj ea).symm
              subst ea
              have hpfit := (HF.out _ (List.getElem_mem hjl)).1
              have hlast : (t.take (j + 1)).getLast? = some t[j] := by rw [List.take_succ_eq_append_getElem hjl, List.getLast?_concat]
              have HLAST := Lib.hid hlast
              generalize t[j] = pn at *
              obtain ⟨pv, hpv⟩ : ∃ pv, pn.path = pv := ⟨_, rfl⟩
              have HP0 := Lib.hid hnp.path
              have hblk0 : a'.block < w.heap.size := hblk
              have HPN := Lib.hid hpv
              rw [hpv] at hpfit
              have HP0 := Lib.hid (HPN.out ▸ HP0.out)
              clear ea hnp hlast hpv
              obtain ⟨c, hc⟩ : ∃ c, order (str pv) (str nd.path) = c := ⟨_, rfl⟩
              have HC := Lib.hid hc
              clear hc
              have hwj : IntKind.i64.wrap (j : Int) = j := by rw [IntWalk.i64_in] <;> omega
              have hj0 : (0 : Int) ≤ j := by omega
              have hj1 : (j : Int) < n := by omega
              by_cases hc0 : 0 ≤ c
              · clear hv4'
                go_wp2_with fail
                refine code_gen (fun W => Off [] w W ∧ Blk W wr.heap.size 40 (ndCells nd)) HB.out ?_
                rintro W ⟨hoW, hbW⟩
                unfold ndCells at hbW
                have hcW := hbW.cell
                have hlW := hbW.lt
                clear hbW
                have hpb : (a'.add (j * 4)).block < W.heap.size := by rw [add_block]; exact Nat.lt_of_lt_of_le hblk0 hoW.size
                have hpc := (hoW.cell (p := a'.add (j * 4)) (by rw [add_block]; exact hblk0) (by simp)).trans HP0.out
                have hx := fun (x : World) (p : Addr) (hp : p.block < W.heap.size) => ext_cell hp x
                refine wp_region_ext (by kernel_rfl) (by kernel_rfl) ?_
                repeat (go_big_quiet_step (first
                  | (go_at_call 29; exact Calls.ext_of (path_v nd.path _ (hT.off (hoW.trans_nil (ext_off W _))) true HV1.out))
                  | (go_at_call 45; exact Calls.ext_of (right_v nd _ true HV2.out))
                  | (go_at_call 33; exact Calls.ext_of (order_v pv nd.path _ hpfit hfit.1 c HC.out))))
                refine wpQuiet_nil ?_
                rintro W2 ⟨x, rfl⟩
                have hoE := hoW.trans_nil (ext_off W x)
                clear hx hcW hlW
                clear hpb hpc
                generalize ext W x = W2 at *
                go_wp2_with fail
                go_ret
                refine ⟨?_, hoE⟩
                have hb : okNext (t.take (j + 1)) nd = false := by
                  rw [okNext_eq]
                  have e3 : lastOk (t.take (j + 1)) nd = false := by
                    rw [lastOk_some HLAST.out]
                    have : order pn.p nd.p = c := by unfold Node.p; rw [HPN.out]; exact HC.out
                    rw [this]
                    exact decide_eq_false (by omega)
                  rw [e3]
                  simp
                rw [chkV, HBAD.out hb]; rfl
              · have hcd : decide (0 ≤ c) = false := decide_eq_false hc0
                have h3 : lastOk (t.take (j + 1)) nd = true := by
                  rw [lastOk_some HLAST.out]
                  have : order pn.p nd.p = c := by unfold Node.p; rw [HPN.out]; exact HC.out
                  rw [this]
                  exact decide_eq_true (by omega)
                have H3 := Lib.hid h3
                clear h3
                cases hv4 : isDir (t.take (j + 1)) (parent (str nd.path))
                · have HV4 := Lib.hid (hv4' _ hv4)
                  have HV4o := Lib.hid hv4
                  clear hv4 hv4'
                  go_wp2_with fail
                  refine code_gen (fun W => Off [] w W ∧ Blk W wr.heap.size 40 (ndCells nd)) HB.out ?_
                  rintro W ⟨hoW, hbW⟩
                  unfold ndCells at hbW
                  have hcW := hbW.cell
                  have hlW := hbW.lt
                  clear hbW
                  have hpb : (a'.add (j * 4)).block < W.heap.size := by rw [add_block]; exact Nat.lt_of_lt_of_le hblk0 hoW.size
                  have hpc := (hoW.cell (p := a'.add (j * 4)) (by rw [add_block]; exact hblk0) (by simp)).trans HP0.out
                  have hx := fun (x : World) (p : Addr) (hp : p.block < W.heap.size) => ext_cell hp x
                  refine wp_region_ext (by kernel_rfl) (by kernel_rfl) ?_
                  repeat (go_big_quiet_step (first
                    | (go_at_call 29; exact Calls.ext_of (path_v nd.path _ (hT.off (hoW.trans_nil (ext_off W _))) true HV1.out))
                    | (go_at_call 45; exact Calls.ext_of (right_v nd _ true HV2.out))
                    | (go_at_call 33; exact Calls.ext_of (order_v pv nd.path _ hpfit hfit.1 c HC.out))
                    | (go_at_call 47; exact Calls.ext_of (parent_any nd.path _ (by omega) (hT.off (hoW.trans_nil (ext_off W _)))))
                    | (go_at_call 46; exact Calls.ext_of (dir_v (some a') (t.take (j + 1)) (j + 1) cap (bs (parent (str nd.path))) _ (HRT.out.off (hoW.trans_nil (ext_off W _))) HTL.out (by omega) HSO.out HFT.out hpsz false HV4.out))))
                  refine wpQuiet_nil ?_
                  rintro W2 ⟨x, rfl⟩
                  have hoE := hoW.trans_nil (ext_off W x)
                  clear hx hcW hlW
                  clear hpb hpc
                  generalize ext W x = W2 at *
                  go_wp2_with fail
                  go_ret
                  exact ⟨by rw [chkV, HBAD.out (okNext_of true true false HV1.out (fun _ => HV2.out) (fun _ _ => H3.out) (fun _ _ => HV4o.out))]; rfl, hoE⟩
                · have HV4 := Lib.hid (hv4' _ hv4)
                  have HV4o := Lib.hid hv4
                  clear hv4 hv4'
                  go_wp2_with fail
                  refine code_gen (fun W => Off [] w W ∧ Blk W wr.heap.size 40 (ndCells nd)) HB.out ?_
                  rintro W ⟨hoW, hbW⟩
                  unfold ndCells at hbW
                  have hcW := hbW.cell
                  have hlW := hbW.lt
                  clear hbW
                  have hpb : (a'.add (j * 4)).block < W.heap.size := by rw [add_block]; exact Nat.lt_of_lt_of_le hblk0 hoW.size
                  have hpc := (hoW.cell (p := a'.add (j * 4)) (by rw [add_block]; exact hblk0) (by simp)).trans HP0.out
                  have hx := fun (x : World) (p : Addr) (hp : p.block < W.heap.size) => ext_cell hp x
                  refine wp_region_ext (by kernel_rfl) (by kernel_rfl) ?_
                  repeat (go_big_quiet_step (first
                    | (go_at_call 29; exact Calls.ext_of (path_v nd.path _ (hT.off (hoW.trans_nil (ext_off W _))) true HV1.out))
                    | (go_at_call 45; exact Calls.ext_of (right_v nd _ true HV2.out))
                    | (go_at_call 33; exact Calls.ext_of (order_v pv nd.path _ hpfit hfit.1 c HC.out))
                    | (go_at_call 47; exact Calls.ext_of (parent_any nd.path _ (by omega) (hT.off (hoW.trans_nil (ext_off W _)))))
                    | (go_at_call 46; exact Calls.ext_of (dir_v (some a') (t.take (j + 1)) (j + 1) cap (bs (parent (str nd.path))) _ (HRT.out.off (hoW.trans_nil (ext_off W _))) HTL.out (by omega) HSO.out HFT.out hpsz true HV4.out))))
                  refine wpQuiet_nil ?_
                  rintro W2 ⟨x, rfl⟩
                  have hoE := hoW.trans_nil (ext_off W x)
                  clear hx hcW hlW
                  clear hpb hpc
                  generalize ext W x = W2 at *
                  go_wp2_with fail
                  exact ⟨⟨j + 1 + 1, rfl, by omega, hoE, Lib.hid (HGOOD.out (okNext_of true true true HV1.out (fun _ => HV2.out) (fun _ _ => H3.out) (fun _ _ => HV4o.out)))⟩, by simp only [intOf]; omega⟩
      · obtain rfl : k = n := by omega
        go_wp2_with fail
        go_ret
        have hall : okTree t = true := by
          unfold okTree
          have := hok.out
          rw [List.take_of_length_le (by rw [HN.out]; exact Nat.le_refl _)] at this
          rw [this, HN.out]
          simp [hlen]
        exact ⟨by rw [chkV, hall]; rfl, ho⟩
  · go_enter Tryz.func28, Tryz.ntmps28
    go_wp2_with fail
    go_ret
    have hbad : okTree t = false := by unfold okTree; rw [HN.out]; simp [hlen]
    exact ⟨by rw [chkV, hbad]; rfl, Off.refl _ _⟩
end Go.Proofs.YtpaeihdkggbeoaaGreatDoor
