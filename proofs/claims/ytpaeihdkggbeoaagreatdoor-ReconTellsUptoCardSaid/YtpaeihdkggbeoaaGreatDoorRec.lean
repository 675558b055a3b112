/- recon in plain words: what stands in three views, items, what is agreed on; recon.dir, in, part: the walks. Conditions: what each contract states. -/
import Derived.Test.YtpaeihdkggbeoaaGreatDoorTBack
namespace Go.Proofs.YtpaeihdkggbeoaaGreatDoor
open Go.RowKit Go.Op

/-- a directory's value? -/
def dirV : List Node → Bool
  | [] => false
  | n :: _ => decide (n.kind = 2)
def inV (v : List Node) : List ByteArray := if dirV v = true then namesR v.tail [] else []
def partV (v : List Node) (x : ByteArray) : List Node := if dirV v = true then atR v.tail (str x) else []
theorem namesR_mem {t : List Node} {d : Str} {x : ByteArray} (h : x ∈ namesR t d) : okName (str x) = true := by
  unfold namesR at h
  split at h
  · rename_i hk
    rw [Bool.and_eq_true] at hk
    unfold namesOf at h
    obtain ⟨n, hn, rfl⟩ := List.mem_map.1 h
    have hp := okTree_path hk.1 (List.mem_filter.1 hn).1
    rw [str_bs]
    have h1 := parts_split hp
    exact okPath_names hp _ (by rw [h1]; simp)
  · cases h
theorem okName_size {s : Str} (h : okName s = true) : s.length ≤ 64 := by
  unfold okName at h
  simp only [Bool.and_eq_true, decide_eq_true_eq] at h
  exact h.1.1.1.1.2
theorem inV_mem {v : List Node} {x : ByteArray} (h : x ∈ inV v) : okName (str x) = true := by
  unfold inV at h
  split at h
  · exact namesR_mem h
  · cases h
theorem atR_short {t : List Node} {q : Str} (hq : q ≠ []) : (atR t q).length ≤ t.length := by
  unfold atR
  rw [if_neg hq]
  split
  · split
    · rw [List.length_map]; exact filter_len _ _
    · simp
  · simp
theorem partV_short {v : List Node} {x : ByteArray} (hx : str x ≠ []) : (partV v x).length ≤ v.length - 1 := by
  unfold partV
  split
  · exact Nat.le_trans (atR_short hx) (by rw [List.length_tail]; exact Nat.le_refl _)
  · simp
theorem partV_fits {v : List Node} {x : ByteArray} : Fits (partV v x) := by
  unfold partV
  split
  · exact fits_atR
  · intro n hn; cases hn
theorem partV_len {v : List Node} {x : ByteArray} : (partV v x).length ≤ 1001 := by
  unfold partV
  split
  · exact atR_len
  · simp
set_option maxRecDepth 100000 in
theorem recdir_any (p : Option Addr) (v : List Node) (n c : Nat) (w : World) (hR : Row w p v) (hn : v.length = n) (b : Bool) (hb : dirV v = b) :
    Calls Tryz.prog 35 #[.slice p n c] w fun e w' => e = .returned (.bool b) ∧ Off [] w w' := by
  subst hb
  cases v with
  | nil =>
    obtain rfl : 0 = n := hn
    clear hR
    go_enter Tryz.func35, Tryz.ntmps35
    go_wp2_with fail
    go_ret
    exact ⟨rfl, Off.refl _ _⟩
  | cons x r =>
    have hpos : 0 < n := by rw [← hn]; simp
    obtain ⟨a, rfl, hna, hab⟩ := hR.head
    have c1 := hna.kind
    clear hna hR hn
    by_cases hk : x.kind = 2
    · have HK := Lib.hid (show dirV (x :: r) = true from decide_eq_true hk)
      rw [hk] at c1
      clear hk
      go_enter Tryz.func35, Tryz.ntmps35
      go_wp2_with fail
      go_ret
      exact ⟨by rw [HK.out]; rfl, Off.refl _ _⟩
    · have HK := Lib.hid (show dirV (x :: r) = false from decide_eq_false hk)
      have hkb : (x.kind == 2) = false := beq_eq_false_iff_ne.2 hk
      go_enter Tryz.func35, Tryz.ntmps35
      go_wp2_with fail
      go_ret
      exact ⟨by rw [HK.out]; rfl, Off.refl _ _⟩
theorem rest_sl {w : World} {a : Addr} {x : Node} {r : List Node} {n c : Nat} (h : Row w (some a) (x :: r)) (hn : (x :: r).length = n) (hc : n ≤ c) (hm : c ≤ maxLen) : Sl w (.slice (if c = 1 then some a else some ⟨a.block, a.off + 4, none⟩) (n - 1) (c - 1)) r := by
  have hl : r.length + 1 = n := hn
  exact Sl.tail h (by omega) (by omega) hm
set_option maxRecDepth 100000 in
set_option maxHeartbeats 4000000 in
theorem recin_any (p : Option Addr) (v : List Node) (n c : Nat) (w : World) (hR : Row w p v) (hn : v.length = n) (hc : n ≤ c) (hm : c ≤ maxLen) (hF : Fits v) (hT : Tabs w) :
    Calls Tryz.prog 58 #[.slice p n c] w (MadeS (inV v) w) := by
  have HD := Lib.hid (fun b hb => recdir_any p v n c w hR hn b hb)
  cases hd : dirV v
  · have E := Lib.hid (show inV v = [] by unfold inV; rw [hd]; rfl)
    have HB := Lib.hid hd
    clear hd hR hn hF
    go_enter Tryz.func58, Tryz.ntmps58
    go_wp2_with fail
    refine (HD.out false HB.out).mono ?_
    rintro e w1 ⟨rfl, ho⟩
    go_wp2_with fail
    go_ret
    rw [E.out]; exact ⟨_, rfl, ⟨rfl, .inl ⟨rfl, rfl⟩⟩, ho⟩
  cases v with
  | nil => cases hd
  | cons x r =>
    have E := Lib.hid (show inV (x :: r) = namesR r [] by unfold inV; rw [if_pos hd]; rfl)
    have HB := Lib.hid hd
    obtain ⟨a, rfl, -, -⟩ := hR.head
    have hs := rest_sl hR hn hc hm
    have hpos : 0 < n := by rw [← hn]; simp
    have hFr : Fits r := hF.tail
    clear hd hR hn hF
    by_cases hc1 : c = 1
    · rw [if_pos hc1] at hs
      have HS := Lib.hid hs
      subst hc1
      have hn1 : n = 1 := by omega
      subst hn1
      clear hs
      go_enter Tryz.func58, Tryz.ntmps58
      go_wp2_with fail
      refine (HD.out true HB.out).mono ?_
      rintro e w1 ⟨rfl, ho⟩
      go_wp2_with fail
      obtain ⟨p', c', e1, hr', hl', hm', -⟩ := HS.out
      injection e1 with e1 e2 e3
      refine (names_any (some a) r 0 0 ⟨#[]⟩ _ ((e1 ▸ hr').off ho) (by omega) (Nat.le_refl _) (by decide) hFr (by decide) (hT.off ho)).mono ?_
      rintro e w2 ⟨x2, rfl, hown, ho2⟩
      go_wp2_with fail
      go_ret
      rw [E.out]; exact ⟨_, rfl, own_base hown ho.size, ho.trans_nil ho2⟩
    · rw [if_neg hc1] at hs
      have HS := Lib.hid hs
      clear hs
      go_enter Tryz.func58, Tryz.ntmps58
      go_wp2_with fail
      refine (HD.out true HB.out).mono ?_
      rintro e w1 ⟨rfl, ho⟩
      go_wp2_with fail
      obtain ⟨p', c', e1, hr', hl', hm', -⟩ := HS.out
      injection e1 with e1 e2 e3
      refine (names_any (some ⟨a.block, a.off + 4, none⟩) r (n - 1) (c - 1) ⟨#[]⟩ _ ((e1 ▸ hr').off ho) (by omega) (by omega) (by omega) hFr (by decide) (hT.off ho)).mono ?_
      rintro e w2 ⟨x2, rfl, hown, ho2⟩
      go_wp2_with fail
      go_ret
      rw [E.out]; exact ⟨_, rfl, own_base hown ho.size, ho.trans_nil ho2⟩
set_option maxRecDepth 100000 in
set_option maxHeartbeats 4000000 in
theorem recpart_any (p : Option Addr) (v : List Node) (n c : Nat) (s : ByteArray) (w : World) (hR : Row w p v) (hn : v.length = n) (hc : n ≤ c) (hm : c ≤ maxLen) (hF : Fits v) (hT : Tabs w) :
    Calls Tryz.prog 61 #[.slice p n c, .string s] w (OwnT (partV v s) w) := by
  have HD := Lib.hid (fun b hb => recdir_any p v n c w hR hn b hb)
  cases hd : dirV v
  · have E := Lib.hid (show partV v s = [] by unfold partV; rw [hd]; rfl)
    have HB := Lib.hid hd
    clear hd hR hn hF
    go_enter Tryz.func61, Tryz.ntmps61
    go_wp2_with fail
    refine (HD.out false HB.out).mono ?_
    rintro e w1 ⟨rfl, ho⟩
    go_wp2_with fail
    go_ret
    rw [E.out]; exact OwnT.nil ho
  cases v with
  | nil => cases hd
  | cons x r =>
    have E := Lib.hid (show partV (x :: r) s = atR r (str s) by unfold partV; rw [if_pos hd]; rfl)
    have HB := Lib.hid hd
    obtain ⟨a, rfl, -, -⟩ := hR.head
    have hs := rest_sl hR hn hc hm
    have hpos : 0 < n := by rw [← hn]; simp
    have hFr : Fits r := hF.tail
    clear hd hR hn hF
    by_cases hc1 : c = 1
    · rw [if_pos hc1] at hs
      have HS := Lib.hid hs
      subst hc1
      have hn1 : n = 1 := by omega
      subst hn1
      clear hs
      go_enter Tryz.func61, Tryz.ntmps61
      go_wp2_with fail
      refine (HD.out true HB.out).mono ?_
      rintro e w1 ⟨rfl, ho⟩
      go_wp2_with fail
      obtain ⟨p', c', e1, hr', hl', hm', -⟩ := HS.out
      injection e1 with e1 e2 e3
      refine (at_any (some a) r 0 0 s _ ((e1 ▸ hr').off ho) (by omega) (Nat.le_refl _) (by decide) (fun h => by cases h) hFr (hT.off ho)).mono ?_
      rintro e w2 ⟨x2, rfl, hown, ho2⟩
      go_wp2_with fail
      go_ret
      rw [E.out]; exact ⟨_, rfl, own_base hown ho.size, ho.trans_nil ho2⟩
    · rw [if_neg hc1] at hs
      have HS := Lib.hid hs
      clear hs
      go_enter Tryz.func61, Tryz.ntmps61
      go_wp2_with fail
      refine (HD.out true HB.out).mono ?_
      rintro e w1 ⟨rfl, ho⟩
      go_wp2_with fail
      obtain ⟨p', c', e1, hr', hl', hm', -⟩ := HS.out
      injection e1 with e1 e2 e3
      refine (at_any (some ⟨a.block, a.off + 4, none⟩) r (n - 1) (c - 1) s _ ((e1 ▸ hr').off ho) (by omega) (by omega) (by omega) (fun h => by cases h) hFr (hT.off ho)).mono ?_
      rintro e w2 ⟨x2, rfl, hown, ho2⟩
      go_wp2_with fail
      go_ret
      rw [E.out]; exact ⟨_, rfl, own_base hown ho.size, ho.trans_nil ho2⟩
end Go.Proofs.YtpaeihdkggbeoaaGreatDoor
