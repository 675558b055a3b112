/- tree.Names and tree.Get: the walks. Conditions: the tables of unicode/utf8 are laid; no string is longer than Go's can be. -/
import Derived.Test.YtpaeihdkggbeoaaGreatDoorCheck
namespace Go.Proofs.YtpaeihdkggbeoaaGreatDoor
open Go.RowKit Go.Op

/-- what stands right in d -/
def namesOf (t : List Node) (d : Str) : List ByteArray := (t.filter fun n => decide (parent n.p = d)).map fun n => bs (base n.p)
def namesR (t : List Node) (d : Str) : List ByteArray := if okTree t && isDir t d then namesOf t d else []
def NamesP (t : List Node) (d : Str) (w : World) (e : Ending) (w' : World) : Prop :=
  ∃ v, e = .returned v ∧ w'.ownsRow w.heap.size 9 1 v (namesR t d).length ((namesR t d).map Value.string) ∧ Off [] w w'
theorem infoStr : (Tryz.prog.info? 9).map (fun i => (i.zero, i.size, i.bytes)) = some (some (.string ⟨#[]⟩), 1, 16) := by kernel_rfl
theorem namesOf_step {t : List Node} {k : Nat} (hk : k < t.length) (d : Str) : namesOf (t.take (k + 1)) d = if parent t[k].p = d then namesOf (t.take k) d ++ [bs (base t[k].p)] else namesOf (t.take k) d := by
  unfold namesOf
  rw [List.take_succ_eq_append_getElem hk, List.filter_append, List.map_append]
  split
  · rename_i h; simp [h]
  · rename_i h; simp [h]
theorem namesOf_len (t : List Node) (d : Str) : (namesOf t d).length ≤ t.length := by
  unfold namesOf; rw [List.length_map]; exact List.length_filter_le _ _
theorem chkV_ok {t : List Node} (h : okTree t = true) : chkV t = 0 := by unfold chkV; rw [h]; rfl
theorem chkV_bad {t : List Node} (h : okTree t = false) : chkV t = 60 := by unfold chkV; rw [h]; rfl
theorem check_v (p : Option Addr) (t : List Node) (n cap : Nat) (w : World) (hR : Row w p t) (hn : t.length = n) (hcap : n ≤ cap) (hbig : n ≤ maxLen) (hF : Fits t) (hT : Tabs w) (c : Int) (hc : chkV t = c) :
    Calls Tryz.prog 28 #[.slice p n cap] w fun e w' => e = .returned (.int .i64 c) ∧ Off [] w w' := hc ▸ check_any p t n cap w hR hn hcap hbig hF hT
theorem ownsRow_off {w w' : World} {base e sz n : Nat} {v : Value} {xs : List Value} (h : w.ownsRow base e sz v n xs) (ho : Off [] w w') : w'.ownsRow base e sz v n xs := by
  refine ⟨h.1, ?_⟩
  rcases h.2 with h | ⟨g, cap, cur, h1, h2, h3, h4⟩
  · exact .inl h
  · exact .inr ⟨g, cap, cur, h1, h2, (ho.block g (Array.getElem?_eq_some_iff.1 h3).1 (by simp)).trans h3, h4⟩
theorem own_off {w wr w1 : World} {b : Value} {n e sz : Nat} {xs : List Value} {o : Obj} (hoff : Off [] w wr) (hown : wr.ownsRow w.heap.size e sz b n xs) (hg : (wr.alloc o).grownBy w1 b.ownBlock) : Off [] w w1 := by
  refine (hoff.alloc o).grown hg (fun g hg' => .inl ?_)
  rcases hown.2 with ⟨rfl, _⟩ | ⟨g', cap, cur, rfl, hb, _⟩
  · cases hg'
  · cases hg'; exact hb
/-- the names as far as the loop has come -/
def NmRel (w : World) (t : List Node) (d : Str) (k : Nat) (v : Value) (wr : World) : Prop :=
  wr.ownsRow w.heap.size 9 1 v (namesOf (t.take k) d).length ((namesOf (t.take k) d).map Value.string) ∧ Off [] w wr

set_option maxRecDepth 100000 in
set_option maxHeartbeats 4000000 in
theorem names_any (p : Option Addr) (t : List Node) (n cap : Nat) (s : ByteArray) (w : World) (hR : Row w p t) (hn : t.length = n) (hcap : n ≤ cap) (hbig : n ≤ maxLen) (hF : Fits t) (hsz : s.size ≤ maxLen) (hT : Tabs w) :
    Calls Tryz.prog 84 #[.slice p n cap, .string s] w (NamesP t (str s) w) := by
  have HN := Lib.hid hn
  have HR := Lib.hid hR
  have HF := Lib.hid hF
  clear hn hR hF
  cases hok : okTree t
  · have HOK := Lib.hid hok
    clear hok
    go_enter Tryz.func84, Tryz.ntmps84
    go_wp2_with fail
    refine (check_v p t n cap _ HR.out HN.out hcap hbig HF.out hT 60 (chkV_bad HOK.out)).mono ?_
    rintro e w1 ⟨rfl, ho⟩
    go_wp2_with fail
    go_ret
    have e0 : namesR t (str s) = [] := by unfold namesR; rw [HOK.out]; rfl
    exact ⟨_, rfl, by rw [e0]; exact ⟨rfl, .inl ⟨rfl, rfl⟩⟩, ho⟩
  · have hlen : n ≤ 1000 := by rw [← HN.out]; exact okTree_len hok
    have HSO := Lib.hid (okTree_sorted hok)
    have HOK := Lib.hid hok
    clear hok
    cases hd : isDir t (str s)
    · have HD := Lib.hid hd
      clear hd
      go_enter Tryz.func84, Tryz.ntmps84
      go_wp2_with fail
      refine (check_v p t n cap _ HR.out HN.out hcap hbig HF.out hT 0 (chkV_ok HOK.out)).mono ?_
      rintro e w1 ⟨rfl, ho⟩
      go_wp2_with fail
      refine (dir_v p t n cap s _ (HR.out.off ho) HN.out (by omega) HSO.out HF.out hsz false HD.out).mono ?_
      rintro e w2 ⟨rfl, ho2⟩
      go_wp2_with fail
      go_ret
      have e0 : namesR t (str s) = [] := by unfold namesR; rw [HOK.out, HD.out]; rfl
      exact ⟨_, rfl, by rw [e0]; exact ⟨rfl, .inl ⟨rfl, rfl⟩⟩, ho.trans_nil ho2⟩
    · have HD := Lib.hid hd
      clear hd
      obtain ⟨i0, hi, hz0, hz1, hz2⟩ := info_parts infoStr
      go_enter Tryz.func84, Tryz.ntmps84
      go_wp2_with fail
      refine (check_v p t n cap _ HR.out HN.out hcap hbig HF.out hT 0 (chkV_ok HOK.out)).mono ?_
      rintro e w1 ⟨rfl, ho⟩
      go_wp2_with fail
      refine (dir_v p t n cap s _ (HR.out.off ho) HN.out (by omega) HSO.out HF.out hsz true HD.out).mono ?_
      rintro e w2 ⟨rfl, ho2⟩
      have ho3 := ho.trans_nil ho2
      clear ho ho2
      go_wp2_with fail
      go_loopw [19, 5] (fun x l wr => ∃ k : Nat, x = .int .i64 k ∧ k ≤ n ∧ NmRel w t (str s) k l wr) (fun x _ _ => n - (intOf x).toNat)
      case atStart => exact ⟨0, rfl, by omega, ⟨rfl, .inl ⟨rfl, rfl⟩⟩, ho3⟩
      case round =>
        obtain ⟨k, rfl, hk, hrel⟩ := hrel
        have HREL := Lib.hid hrel
        have hoff := hrel.2
        clear hrel ho3
        by_cases hkn : k < n
        · have hkl : k < t.length := by rw [HN.out]; omega
          obtain ⟨a, rfl, hna, hab⟩ := (HR.out.off hoff).get k hkl
          have hfit : t[k].path.size ≤ 400 := okTree_small HOK.out (List.getElem_mem hkl)
          have HST := Lib.hid (namesOf_step hkl (str s))
          generalize t[k] = nd at *
          have c0 := hna.path
          have c1 := hna.kind
          have c2 := hna.data
          have c3 := hna.mode
          clear hna
          have hown := HREL.out.1
          have hnl : (namesOf (t.take k) (str s)).length ≤ 1000 := by have := namesOf_len (t.take k) (str s); rw [List.length_take] at this; omega
          by_cases hp : parent (str nd.path) = str s
          · have hpe : ((bs (parent (str nd.path))).toList == s.toList) = true := by rw [toList_str, toList_str, str_bs]; exact beq_iff_eq.2 hp
            have HP := Lib.hid hp
            clear hp
            go_wp2_with fail
            refine (parent_any nd.path _ (by omega) (hT.off (hoff.alloc _))).mono ?_
            rintro e w4 ⟨rfl, ho4⟩
            have hB4 := (Blk.new wr 40 (ndCells nd)).off ho4 (by simp)
            unfold ndCells at hB4
            have hc4 := hB4.cell
            have hl4 := hB4.lt
            clear c0 c1 c2 c3
            go_wp2_with fail
            refine (base_any nd.path _ (by omega) (hT.off ((hoff.alloc _).trans_nil ho4))).mono ?_
            rintro e w5 ⟨rfl, ho5⟩
            have hoff5 := ((hoff.alloc (.cells (ndCells nd) 40)).trans_nil ho4).trans_nil ho5
            clear hc4 hl4 hB4
            have hown5 := ownsRow_off (ownsRow_off (hown.alloc (.cells (ndCells nd) 40)) ho4) ho5
            go_wp2_with (at_builtin; refine wpList_append_own _ rfl _ _ 46 rfl w.heap.size 9 i0 (.string ⟨#[]⟩) 1 16 Tryz.underlying46 hi hz0 hz1 hz2 rfl (by decide) _ _ _ rfl (hown5.alloc _) ⟨w5.heap.size, 0, none⟩ 1 1 [_] rfl rfl (cell_one_at (Blk.new w5 _ _)) (by simp [Value.oneCell']) (by unfold maxLen; omega) (by omega) (by have := hoff5.size; simp; omega) ?_; intro v' w6 hown' hgrow _)
            refine ⟨⟨k + 1, by push_cast; rfl, by omega, ?_, own_off hoff5 hown5 hgrow⟩, ?_⟩
            · rw [HST.out]
              rw [if_pos (show parent nd.p = str s from HP.out)]
              simpa [Node.p] using hown'
            · simp only [intOf]; omega
          · have hpe : ((bs (parent (str nd.path))).toList == s.toList) = false := by rw [toList_str, toList_str, str_bs]; exact beq_eq_false_iff_ne.2 hp
            have HP := Lib.hid hp
            clear hp hown
            go_wp2_with fail
            refine (parent_any nd.path _ (by omega) (hT.off (hoff.alloc _))).mono ?_
            rintro e w4 ⟨rfl, ho4⟩
            clear c0 c1 c2 c3
            go_wp2_with fail
            refine ⟨⟨k + 1, by push_cast; rfl, by omega, ?_, (hoff.alloc (.cells (ndCells nd) 40)).trans_nil ho4⟩, ?_⟩
            · rw [HST.out, if_neg (show ¬ parent nd.p = str s from HP.out)]
              exact ownsRow_off (HREL.out.1.alloc (.cells (ndCells nd) 40)) ho4
            · simp only [intOf]; omega
        · obtain rfl : k = n := by omega
          go_wp2_with fail
          go_ret
          have e0 : namesR t (str s) = namesOf (t.take k) (str s) := by
            unfold namesR
            rw [HOK.out, HD.out, List.take_of_length_le (by rw [HN.out]; exact Nat.le_refl _)]
            rfl
          exact ⟨_, rfl, by rw [e0]; exact HREL.out.1, HREL.out.2⟩

def node0 : Node := ⟨⟨#[]⟩, 0, ⟨#[]⟩, 0⟩
def GetP (t : List Node) (d : Str) (w : World) (e : Ending) (w' : World) : Prop :=
  ∃ nd f, e = .returned (.tuple #[nd.val, .bool f]) ∧ ((f = true ∧ okTree t = true ∧ nd ∈ t ∧ nd.p = d) ∨ (f = false ∧ nd = node0 ∧ (okTree t = true → ∀ m ∈ t, m.p ≠ d))) ∧ Off [] w w'
end Go.Proofs.YtpaeihdkggbeoaaGreatDoor
