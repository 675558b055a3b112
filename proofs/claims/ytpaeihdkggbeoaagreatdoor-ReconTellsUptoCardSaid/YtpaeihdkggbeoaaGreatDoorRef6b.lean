/- hawserref06.Check: the walk. Conditions: no path is longer than 1048576 bytes; no list is longer than 2^40. -/
import Derived.Test.YtpaeihdkggbeoaaGreatDoorRLaw
namespace Go.Proofs.YtpaeihdkggbeoaaGreatDoor
open Go.RowKit Go.Op

/-- no path is longer than a walk of the reference allows -/
def Fits1 (t : List Node) : Prop := ∀ n ∈ t, n.path.size ≤ 1048576 ∧ n.data.size ≤ 1048576
theorem Fits1.fits {t : List Node} (h : Fits1 t) : Fits t := fun n hn => by have := h n hn; unfold maxLen; omega
theorem rpath_v (s : ByteArray) (w : World) (hs : s.size ≤ 1048576) (v : Bool) (hv : okPath (str s) = v) : Calls Tryz.prog 25 #[.string s] w fun e w' => e = .returned (.bool v) ∧ Off [] w w' := hv ▸ rpath_any s w hs
theorem rright_v (n : Node) (w : World) (hs : n.data.size ≤ 1048576) (v : Bool) (hv : rightN n = v) : Calls Tryz.prog 62 #[.agg #[.string n.path, .int .i64 n.kind, .string n.data, .int .i64 n.mode]] w fun e w' => e = .returned (.bool v) ∧ Off [] w w' := hv ▸ rright_any n w (by unfold maxLen; omega)
theorem rorder_v (a b : ByteArray) (w : World) (ha : a.size ≤ 1048576) (hb : b.size ≤ 1048576) (c : Int) (hc : order (str a) (str b) = c) : Calls Tryz.prog 65 #[.string a, .string b] w fun e w' => e = .returned (.int .i64 c) ∧ Off [] w w' := hc ▸ rorder_any a b w ha hb
theorem rdir_v (p : Option Addr) (t : List Node) (n cap : Nat) (s : ByteArray) (w : World) (hR : Row w p t) (hn : t.length = n) (hbig : n ≤ 1099511627776) (v : Bool) (hv : rdir t (str s) = v) :
    Calls Tryz.prog 63 #[.slice p n cap, .string s] w fun e w' => e = .returned (.bool v) ∧ Off [] w w' := hv ▸ rdir_any p t n cap s w hR hn hbig
set_option maxRecDepth 100000 in
set_option maxHeartbeats 4000000 in
theorem rcheck_any (p : Option Addr) (t : List Node) (n cap : Nat) (w : World) (hR : Row w p t) (hn : t.length = n) (hbig : n ≤ 1099511627776) (hF : Fits1 t) :
    Calls Tryz.prog 37 #[.slice p n cap] w fun e w' => e = .returned (.int .i64 (chkV t)) ∧ Off [] w w' := by
  have HN := Lib.hid hn
  have HR := Lib.hid hR
  have HF := Lib.hid hF
  clear hn hR hF
  by_cases hlen : n ≤ 1000
  · go_enter Tryz.func37, Tryz.ntmps37
    go_wp2_with fail
    go_loopw [3] (fun x wr => ∃ k : Nat, x = .int .i64 k ∧ k ≤ n ∧ Off [] w wr ∧ Hid (RokTo t k)) (fun x _ => n - (intOf x).toNat)
    case atStart => exact ⟨0, rfl, by omega, Off.refl _ _, Lib.hid (fun j hj h => by omega)⟩
    case round =>
      obtain ⟨k, rfl, hk, ho, hok⟩ := hrel
      by_cases hkn : k < n
      · have hkl : k < t.length := by rw [HN.out]; omega
        obtain ⟨a, rfl, hna, hab⟩ := (HR.out.off ho).get k hkl
        have hfit := HF.out _ (List.getElem_mem hkl)
        have HBAD := Lib.hid (fun h => rok_bad (t := t) hkl h)
        have HGOOD := Lib.hid (fun h => hok.out.succ hkl h)
        generalize hnd : t[k] = nd at *
        clear hnd
        have HNA := Lib.hid hna
        have habk : (a.add (k * 4)).block < wr.heap.size := by rw [add_block]; exact hab
        have c0 := hna.path
        have hf0 := hfit.1
        have hf1 := hfit.2
        have hpsz : (bs (parent (str nd.path))).size ≤ 1048576 := by have := bs_parent_size nd.path; omega
        clear hna hfit
        cases hv1 : okPath (str nd.path)
        · have HV1 := Lib.hid hv1
          clear hv1
          go_wp2_with fail
          refine (rpath_v nd.path _ hf0 false HV1.out).mono ?_
          rintro e w1 ⟨rfl, ho1⟩
          clear c0
          go_wp2_with fail
          go_ret
          exact ⟨by rw [chkV, HBAD.out (rok_of false true true HV1.out (fun h => by cases h) (fun h => by cases h) (fun h => by cases h))]; rfl, ho.trans_nil ho1⟩
        have HV1 := Lib.hid hv1
        clear hv1
        cases hv2 : rightN nd
        · have HV2 := Lib.hid hv2
          clear hv2
          go_wp2_with fail
          refine (rpath_v nd.path _ hf0 true HV1.out).mono ?_
          rintro e w1 ⟨rfl, ho1⟩
          clear c0
          have hna1 := HNA.out.off ho1 habk
          have c0 := hna1.path
          have c1 := hna1.kind
          have c2 := hna1.data
          have c3 := hna1.mode
          clear hna1
          go_wp2_with fail
          refine (rright_v nd _ hf1 false HV2.out).mono ?_
          rintro e w2 ⟨rfl, ho2⟩
          clear c0 c1 c2 c3
          go_wp2_with fail
          go_ret
          exact ⟨by rw [chkV, HBAD.out (rok_of true false true HV1.out (fun _ => HV2.out) (fun _ h => by cases h) (fun _ h => by cases h))]; rfl, (ho.trans_nil ho1).trans_nil ho2⟩
        have HV2 := Lib.hid hv2
        clear hv2
        go_wp2_with fail
        refine (rpath_v nd.path _ hf0 true HV1.out).mono ?_
        rintro e w1 ⟨rfl, ho1⟩
        clear c0
        have hna1 := HNA.out.off ho1 habk
        have hab1 := Nat.lt_of_lt_of_le habk ho1.size
        have c0 := hna1.path
        have c1 := hna1.kind
        have c2 := hna1.data
        have c3 := hna1.mode
        have HNA1 := Lib.hid hna1
        clear hna1
        go_wp2_with fail
        refine (rright_v nd _ hf1 true HV2.out).mono ?_
        rintro e w2 ⟨rfl, ho2⟩
        clear c0 c1 c2 c3
        have c0 := (HNA1.out.off ho2 hab1).path
        have HNA2 := Lib.hid (HNA1.out.off ho2 hab1)
        have hv3' : ∀ v, rdir t (parent (str nd.path)) = v → rdir t (str (bs (parent (str nd.path)))) = v := fun v h => by rw [str_bs]; exact h
        go_wp2_with fail
        refine (rparent_any nd.path _ hf0).mono ?_
        rintro e w3 ⟨rfl, ho3⟩
        clear c0
        have hoA := (((ho.trans_nil ho1).trans_nil ho2).trans_nil ho3)
        have hab2 := Nat.lt_of_lt_of_le hab1 ho2.size
        have HNA3 := Lib.hid (HNA2.out.off ho3 hab2)
        have hab3 := Nat.lt_of_lt_of_le hab2 ho3.size
        go_wp2_with fail
        cases hv3 : rdir t (parent (str nd.path))
        · have HV3 := Lib.hid hv3
          refine (rdir_v (some a) t n cap _ _ (HR.out.off hoA) HN.out hbig false (hv3' _ hv3)).mono ?_
          rintro e w4 ⟨rfl, ho4⟩
          clear hv3 hv3'
          go_wp2_with fail
          go_ret
          exact ⟨by rw [chkV, HBAD.out (rok_of true true false HV1.out (fun _ => HV2.out) (fun _ _ => HV3.out) (fun _ _ h => by cases h))]; rfl, hoA.trans_nil ho4⟩
        have HV3 := Lib.hid hv3
        refine (rdir_v (some a) t n cap _ _ (HR.out.off hoA) HN.out hbig true (hv3' _ hv3)).mono ?_
        rintro e w4 ⟨rfl, ho4⟩
        clear hv3 hv3'
        have hoB := hoA.trans_nil ho4
        have HNA4 := Lib.hid (HNA3.out.off ho4 hab3)
        have hab4 := Nat.lt_of_lt_of_le hab3 ho4.size
        clear ho1 ho2 ho3 ho4 hab1 hab2 hab3 hoA
        by_cases hk0 : k = 0
        · have H3 := Lib.hid (show lastOk (t.take k) nd = true from lastOk_none (by rw [hk0]; simp))
          have hkz : ¬ ((0 : Int) < (k : Int)) := by omega
          have hkz' : ¬ (0 < k) := by omega
          clear hk0
          go_wp2_with fail
          refine wp_region_ext (by kernel_rfl) (by kernel_rfl) ?_
          repeat (go_big_quiet_step (fail))
          refine wpQuiet_nil ?_
          rintro W2 ⟨x, rfl⟩
          have hoE := hoB.trans_nil (ext_off w4 x)
          generalize ext w4 x = W2 at *
          go_wp2_with fail
          refine ⟨⟨k + 1, by congr 1, by omega, hoE, Lib.hid (HGOOD.out ?_)⟩, by simp only [intOf]; omega⟩
          unfold rok
          have e1 : okPath nd.p = true := HV1.out
          have e3 : rdir t (parent nd.p) = true := HV3.out
          rw [e1, HV2.out, e3, H3.out]; rfl
        · obtain ⟨j, rfl⟩ : ∃ j, k = j + 1 := ⟨k - 1, by omega⟩
          clear hk0
          have hjl : j < t.length := by omega
          obtain ⟨a', ea, hnp, hblk⟩ := HR.out.get j hjl
          have ea : a' = a := (Option.some.inj ea).symm
          subst ea
          have hpfit := (HF.out _ (List.getElem_mem hjl)).1
          have hlast : (t.take (j + 1)).getLast? = some t[j] := by rw [List.take_succ_eq_append_getElem hjl, List.getLast?_concat]
          have HLAST := Lib.hid hlast
          generalize t[j] = pn at *
          have hblk0 : (a'.add (j * 4)).block < w.heap.size := by rw [add_block]; exact hblk
          have hpb : (a'.add (j * 4)).block < w4.heap.size := Nat.lt_of_lt_of_le hblk0 hoB.size
          have hpc := (hoB.cell (p := a'.add (j * 4)) hblk0 (by simp)).trans hnp.path
          have hnc := HNA4.out.path
          clear ea hnp hlast
          obtain ⟨c, hc⟩ : ∃ c, order (str pn.path) (str nd.path) = c := ⟨_, rfl⟩
          have HC := Lib.hid hc
          clear hc
          have hwj : IntKind.i64.wrap (j : Int) = j := by rw [IntWalk.i64_in] <;> omega
          have hj0 : (0 : Int) ≤ j := by omega
          have hj1 : (j : Int) < n := by omega
          have hx := fun (x : World) (p : Addr) (hp : p.block < w4.heap.size) => ext_cell hp x
          by_cases hc0 : 0 ≤ c
          · go_wp2_with fail
            refine wp_region_ext (by kernel_rfl) (by kernel_rfl) ?_
            repeat (go_big_quiet_step (first
              | (go_at_call 65; exact Calls.ext_of (rorder_v pn.path nd.path _ hpfit hf0 c HC.out))))
            refine wpQuiet_nil ?_
            rintro W2 ⟨x, rfl⟩
            have hoE := hoB.trans_nil (ext_off w4 x)
            clear hx hpb hpc hnc
            generalize ext w4 x = W2 at *
            go_wp2_with fail
            go_ret
            refine ⟨?_, hoE⟩
            have hb : rok t (t.take (j + 1)) nd = false := by
              unfold rok
              have e4 : lastOk (t.take (j + 1)) nd = false := by
                rw [lastOk_some HLAST.out]
                have : order pn.p nd.p = c := HC.out
                rw [this]
                exact decide_eq_false (by omega)
              rw [e4]
              simp
            rw [chkV, HBAD.out hb]; rfl
          · have hcd : decide (0 ≤ c) = false := decide_eq_false hc0
            go_wp2_with fail
            refine wp_region_ext (by kernel_rfl) (by kernel_rfl) ?_
            repeat (go_big_quiet_step (first
              | (go_at_call 65; exact Calls.ext_of (rorder_v pn.path nd.path _ hpfit hf0 c HC.out))))
            refine wpQuiet_nil ?_
            rintro W2 ⟨x, rfl⟩
            have hoE := hoB.trans_nil (ext_off w4 x)
            clear hx hpb hpc hnc
            generalize ext w4 x = W2 at *
            go_wp2_with fail
            refine ⟨⟨j + 1 + 1, by congr 1, by omega, hoE, Lib.hid (HGOOD.out ?_)⟩, by simp only [intOf]; omega⟩
            unfold rok
            have e1 : okPath nd.p = true := HV1.out
            have e3 : rdir t (parent nd.p) = true := HV3.out
            have e4 : lastOk (t.take (j + 1)) nd = true := by
              rw [lastOk_some HLAST.out]
              have : order pn.p nd.p = c := HC.out
              rw [this]
              exact decide_eq_true (by omega)
            rw [e1, HV2.out, e3, e4]; rfl
      · obtain rfl : k = n := by omega
        go_wp2_with fail
        go_ret
        have hall : okTree t = true := RokTo.tree (by rw [HN.out]; exact hlen) (by rw [HN.out]; exact hok.out)
        exact ⟨by rw [chkV, hall]; rfl, ho⟩
  · go_enter Tryz.func37, Tryz.ntmps37
    go_wp2_with fail
    go_ret
    have hbad : okTree t = false := by unfold okTree; rw [HN.out]; simp [hlen]
    exact ⟨by rw [chkV, hbad]; rfl, Off.refl _ _⟩
end Go.Proofs.YtpaeihdkggbeoaaGreatDoor
