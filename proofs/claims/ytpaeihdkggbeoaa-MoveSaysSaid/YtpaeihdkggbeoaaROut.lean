/- The walks of the reference's sender with one call. Conditions: a text of at most 65536 bytes. -/
import Derived.Test.YtpaeihdkggbeoaaSend
namespace Go.Proofs.Ytpaeihdkggbeoaa
open Go.RowKit Go.Op

theorem cells_at {w : World} {g : Nat} {t : TypeId} {cs : Array Value} (h : Blk w g t cs) : ∀ j u, cs.toList[j]? = some u → w.cell? ((⟨g, 0, none⟩ : Addr).add j) = some u := by
  intro j u hj
  rw [addr_add, h.cell]
  simpa using hj
theorem own_blk_k {w : World} {base g n cap size : Nat} {e : TypeId} {xs : List Value} (h : w.ownsRow base e size (.slice (some ⟨g, 0, none⟩) n cap) n xs) :
    ∃ cur, Blk w g e cur ∧ base ≤ g ∧ n ≤ cap ∧ ∀ (i : Nat) (u : Value), xs[i]? = some u → cur[i]? = some u := by
  rcases h.2 with ⟨h0, _⟩ | ⟨g', cap', cur, hv, hb, hh, hc, _, hs, ht⟩
  · cases h0
  · injection hv with h1 h2 h3
    injection h1 with h1
    injection h1 with h1 _
    subst h1; subst h3
    refine ⟨cur, hh, hb, hc, fun i u hu => ?_⟩
    rw [← ht, List.getElem?_take] at hu
    split at hu
    · simpa using hu
    · cases hu

structure ROutAt (w : World) (gO gL cap : Nat) (cur : Array Value) (t : ByteArray) (b : Bool) (s a : Nat) : Prop where
  o : Blk w gO 79 #[.int .i64 4096, .int .i64 1024, .slice (some ⟨gL, 0, none⟩) 1 cap]
  l : Blk w gL 108 cur
  k : 1 ≤ cap
  c0 : cur[0]? = some (.string t)
  c1 : cur[1]? = some (.int .i64 s)
  c2 : cur[2]? = some (.int .i64 a)
  c3 : cur[3]? = some (.bool b)
  c4 : cur[4]? = some (.bool false)

theorem info108 : (Try.prog.info? 108).map (fun i => (i.zero, i.size, i.bytes)) = some (some (.agg #[.string ⟨#[]⟩, .int .i64 0, .int .i64 0, .bool false, .bool false]), 5, 40) := by kernel_rfl

/-- waits, of a struct by value -/
theorem rwaits (t : ByteArray) (b d : Bool) (s a : Nat) (w : World) : Calls Try.prog 45 #[.agg #[.string t, .int .i64 s, .int .i64 a, .bool b, .bool d]] w fun e w' => e = .returned (.bool (waitsB t b s)) ∧ Off [] w w' := by
  by_cases h1 : s < t.size
  · have hw : waitsB t b s = true := by simp [waitsB, h1]
    have HW := Lib.hid hw
    clear hw
    go_enter Try.func45, Try.ntmps45
    go_wp2
    go_ret
    exact ⟨by rw [HW.out]; rfl, (Off.refl _ _).alloc _⟩
  · by_cases h2 : t.size = 0
    · have hw : waitsB t b s = !b := by simp [waitsB, h2]
      have HW := Lib.hid hw
      clear hw
      have h3 : ((t.size : Int) == 0) = true := beq_iff_eq.2 (by omega)
      cases b
      all_goals
        go_enter Try.func45, Try.ntmps45
        go_wp2
        go_ret
        exact ⟨by rw [HW.out]; rfl, (Off.refl _ _).alloc _⟩
    · have hw : waitsB t b s = false := by simp [waitsB, h1, h2]
      have HW := Lib.hid hw
      clear hw
      have h3 : ((t.size : Int) == 0) = false := beq_eq_false_iff_ne.2 (by omega)
      go_enter Try.func45, Try.ntmps45
      go_wp2
      go_ret
      exact ⟨by rw [HW.out]; rfl, (Off.refl _ _).alloc _⟩

def RPutPost (w : World) (gO : Nat) (t : ByteArray) (e : Ending) (w' : World) : Prop :=
  e = .returned (.int .i64 0) ∧ Off [gO] w w' ∧ ∃ gL cap cur, w.heap.size ≤ gL ∧ ROutAt w' gO gL cap cur t false 0 0
set_option maxRecDepth 100000 in
theorem rput (gO : Nat) (t : ByteArray) (w : World) (ht : t.size ≤ 65536) (hO : Blk w gO 79 #[.int .i64 4096, .int .i64 1024, .slice none 0 0]) :
    Calls Try.prog 25 #[.pointer (some ⟨gO, 0, none⟩), .string t] w (RPutPost w gO t) := by
  obtain ⟨i0, hi, hz0, hz1, hz2⟩ := info_parts info108
  have hcO := hO.cell
  have hfO := hO.frozen
  have hlO := hO.lt
  go_enter Try.func25, Try.ntmps25
  go_wp2_with (at_builtin; refine wpList_append_own _ rfl _ _ 77 rfl w.heap.size 108 i0 _ 5 40 Try.underlying77 hi hz0 hz1 hz2 rfl (by decide) _ 0 [] rfl ⟨rfl, .inl ⟨rfl, rfl⟩⟩ ⟨w.heap.size, 0, none⟩ 1 1 [.string t, .int .i64 0, .int .i64 0, .bool false, .bool false] rfl rfl (cells_at (Blk.new _ _ _)) (by simp [Value.oneCell']) (by unfold maxLen; omega) (by omega) (by simp) ?_; intro v' w1 hown' hgrow _; obtain ⟨gL, cap, rfl⟩ := ownsRow_succ (k := 0) hown'; have hO1 := (hO.alloc (.cells #[.string t, .int .i64 0, .int .i64 0, .bool false, .bool false] 108)).grown hgrow (by simp [Value.ownBlock, Act.eval]); have hcO1 := hO1.cell; have hfO1 := hO1.frozen; have hlO1 := hO1.lt)
  go_ret
  have ho1 : Off [] w w1 := (((Off.refl _ _).alloc _).grown (by assumption) (by intro k hk; simp [Value.ownBlock, Act.eval] at hk))
  obtain ⟨cur, hL, hb, hk, hcur⟩ := own_blk_k (by assumption : w1.ownsRow _ _ _ _ _ _)
  have n1 : gO ≠ gL := hO1.ne_ hL (by decide)
  exact ⟨rfl, (ho1.mono (by simp)).setCell (.inr (by simp)) _, gL, cap, cur, hb, hO1.set_ 2 _, hL.far n1.symm _, by omega, hcur 0 _ rfl, hcur 1 _ rfl, hcur 2 _ rfl, hcur 3 _ rfl, hcur 4 _ rfl⟩

theorem rleft (gO gL cap : Nat) (cur : Array Value) (t : ByteArray) (b : Bool) (s a : Nat) (w : World) (h : ROutAt w gO gL cap cur t b s a) :
    Calls Try.prog 26 #[.pointer (some ⟨gO, 0, none⟩)] w fun e w' => e = .returned (.int .i64 (if waitsB t b s then 1 else 0)) ∧ Off [] w w' := by
  obtain ⟨hO, hL, hk, hc0, hc1, hc2, hc3, hc4⟩ := h
  have hcO := hO.cell
  have hcL := hL.cell
  have HW := Lib.hid (fun w => rwaits t b false s a w)
  generalize waitsB t b s = B at *
  cases B
  all_goals
    go_enter Try.func26, Try.ntmps26
    go_wp2_with fail
    refine wp_loop_rounds 2 ?_
    rw [rounds_succ]
    go_wp2_with fail
    refine (HW.out _).mono ?_
    rintro e w1 ⟨rfl, ho⟩
    have hcO1 := (hO.off ho (by simp)).cell
    go_wp2_with fail
    rw [rounds_succ]
    go_wp2_with fail
    go_ret
    exact ⟨rfl, ho⟩

/-- a struct of five cells written over another -/
def set5 (cur : Array Value) (v0 v1 v2 v3 v4 : Value) : Array Value := ((((cur.setIfInBounds 0 v0).setIfInBounds 1 v1).setIfInBounds 2 v2).setIfInBounds 3 v3).setIfInBounds 4 v4
theorem set5_at {cur : Array Value} (h : 4 < cur.size) (v0 v1 v2 v3 v4 : Value) :
    (set5 cur v0 v1 v2 v3 v4)[0]? = some v0 ∧ (set5 cur v0 v1 v2 v3 v4)[1]? = some v1 ∧ (set5 cur v0 v1 v2 v3 v4)[2]? = some v2 ∧ (set5 cur v0 v1 v2 v3 v4)[3]? = some v3 ∧ (set5 cur v0 v1 v2 v3 v4)[4]? = some v4 := by
  unfold set5
  have a0 : 0 < cur.size := by omega
  have a1 : 1 < cur.size := by omega
  have a2 : 2 < cur.size := by omega
  have a3 : 3 < cur.size := by omega
  refine ⟨?_, ?_, ?_, ?_, ?_⟩ <;> simp [a0, a1, a2, a3, h]
theorem rout_set {w w2 : World} {gO gL cap : Nat} {cur : Array Value} {t t' : ByteArray} {b b' : Bool} {s a s' a' : Nat} (h : ROutAt w gO gL cap cur t b s a) (hO : Blk w2 gO 79 #[.int .i64 4096, .int .i64 1024, .slice (some ⟨gL, 0, none⟩) 1 cap])
    (hL : Blk w2 gL 108 (set5 cur (.string t') (.int .i64 s') (.int .i64 a') (.bool b') (.bool false))) : ∃ cur', ROutAt w2 gO gL cap cur' t' b' s' a' := by
  have h4 : 4 < cur.size := (Array.getElem?_eq_some_iff.1 h.c4).1
  obtain ⟨e0, e1, e2, e3, e4⟩ := set5_at h4 (.string t') (.int .i64 s') (.int .i64 a') (.bool b') (.bool false)
  exact ⟨_, hO, hL, h.k, e0, e1, e2, e3, e4⟩

set_option maxRecDepth 100000 in
set_option maxHeartbeats 1000000 in
theorem rack (gO gL cap : Nat) (cur : Array Value) (t : ByteArray) (b : Bool) (s a n : Nat) (N : Int) (w : World) (hN : N = (n : Int)) (ha : a ≤ n) (hn : n ≤ s) (_hs : s < 1099511627776) (h : ROutAt w gO gL cap cur t b s a) :
    Calls Try.prog 28 #[.pointer (some ⟨gO, 0, none⟩), .int .i64 0, .int .i64 N] w fun e w' => e = .returned (.int .i64 0) ∧ (∃ cur', ROutAt w' gO gL cap cur' t b s n) ∧ Off [gL] w w' := by
  subst hN
  have h_ := Lib.hid h
  obtain ⟨hO, hL, hk, hc0, hc1, hc2, hc3, hc4⟩ := h
  have hcO := hO.cell
  have hcL := hL.cell
  go_enter Try.func28, Try.ntmps28
  go_wp2_with fail
  have hfL := hL.frozen
  have hlO := hO.lt
  have hlL := hL.lt
  go_region
  go_wp2
  go_ret
  have hL' := (((((hL.set_ 0 (.string t)).set_ 1 (.int .i64 s)).set_ 2 (.int .i64 n)).set_ 3 (.bool b)).set_ 4 (.bool false)).alloc (.cells #[.string t, .int .i64 s, .int .i64 n, .bool b, .bool false] 108)
  have n1 : gO ≠ gL := hO.ne_ hL (by decide)
  exact ⟨rfl, rout_set h_.out ((((((hO.far n1 _).far n1 _).far n1 _).far n1 _).far n1 _).alloc _).drew hL'.drew, (((((((Off.refl _ _).setCell (.inr (by simp)) _).setCell (.inr (by simp)) _).setCell (.inr (by simp)) _).setCell (.inr (by simp)) _).setCell (.inr (by simp)) _).alloc _).drew⟩
theorem keepA2 {w wa wb : World} {g g' : Nat} {cs cs' : Array Value} (ho : Off [] wa wb) (h : Off [] w wa ∧ (g < wa.heap.size ∧ g' < wa.heap.size) ∧ (∀ i, wa.cell? ⟨g, i, none⟩ = cs[i]?) ∧ ∀ i, wa.cell? ⟨g', i, none⟩ = cs'[i]?) :
    Off [] w wb ∧ (g < wb.heap.size ∧ g' < wb.heap.size) ∧ (∀ i, wb.cell? ⟨g, i, none⟩ = cs[i]?) ∧ ∀ i, wb.cell? ⟨g', i, none⟩ = cs'[i]? :=
  ⟨h.1.trans_nil ho, ⟨Nat.lt_of_lt_of_le h.2.1.1 ho.size, Nat.lt_of_lt_of_le h.2.1.2 ho.size⟩, fun i => (ho.cell (p := ⟨g, i, none⟩) h.2.1.1 (by simp)).trans (h.2.2.1 i), fun i => (ho.cell (p := ⟨g', i, none⟩) h.2.1.2 (by simp)).trans (h.2.2.2 i)⟩

def RSendPost (w : World) (gO gL cap : Nat) (t : ByteArray) (s : Nat) (e : Ending) (w' : World) : Prop :=
  e = .returned (.tuple #[.agg #[.int .i64 0, .int .i64 s, .string (t.extract s (s + sendN t s)), .bool (decide (s + sendN t s = t.size))], .bool true]) ∧ (∃ cur', ROutAt w' gO gL cap cur' t true (s + sendN t s) s) ∧ Off [gL] w w'

theorem rsend_end {w W : World} {gO gL gC cap : Nat} {cur : Array Value} {t : ByteArray} {b : Bool} {s N : Nat} {o : Obj} {v1 v2 v3 v4 v5 v6 : Value} (h : ROutAt w gO gL cap cur t b s s) (hN : sendN t s = N) (hw : Off [] w W)
    (hO : Blk W gO 79 #[.int .i64 4096, .int .i64 1024, .slice (some ⟨gL, 0, none⟩) 1 cap]) (hL : Blk W gL 108 cur) (n1 : gL ≠ gC) (n3 : gO ≠ gC) (n4 : gO ≠ gL) (n8 : gL ≠ w.heap.size) (n9 : gO ≠ w.heap.size) (hC : w.heap.size ≤ gC) :
    RSendPost w gO gL cap t s (.returned (.tuple #[.agg #[.int .i64 0, .int .i64 s, .string (t.extract s (s + N)), .bool ((s : Int) + (N : Int) == (t.size : Int))], .bool true]))
      ((((((((((((W.setCell ⟨gC, 1, none⟩ v1).setCell ⟨gC, 3, none⟩ v2).setCell ⟨gL, 0, none⟩ (.string t)).setCell ⟨gL, 1, none⟩ (.int .i64 ((s : Int) + (N : Int)))).setCell ⟨gL, 2, none⟩ (.int .i64 s)).setCell ⟨gL, 3, none⟩ (.bool true)).setCell ⟨gL, 4, none⟩ (.bool false)).setCell ⟨w.heap.size, 0, none⟩ v3).setCell ⟨w.heap.size, 1, none⟩ v4).setCell ⟨w.heap.size, 2, none⟩ v5).setCell ⟨w.heap.size, 3, none⟩ v6).alloc o).drew.drew := by
  subst hN
  refine ⟨?_, rout_set h (b' := true) (((((((((((((hO.far n3 _).far n3 _).far n4 _).far n4 _).far n4 _).far n4 _).far n4 _).far n9 _).far n9 _).far n9 _).far n9 _).alloc _).drew.drew) ?_, ?_⟩
  · have e : ((s : Int) + (sendN t s : Int) == (t.size : Int)) = decide (s + sendN t s = t.size) := by
      rw [Bool.eq_iff_iff]
      simp only [beq_iff_eq, decide_eq_true_eq]
      omega
    rw [e]
  · have k1 := (hL.far (p := ⟨gC, 1, none⟩) n1 v1).far (p := ⟨gC, 3, none⟩) n1 v2
    have k2 := ((((k1.set_ 0 (.string t)).set_ 1 (.int .i64 ((s : Int) + (sendN t s : Int)))).set_ 2 (.int .i64 s)).set_ 3 (.bool true)).set_ 4 (.bool false)
    have k3 := (((k2.far (p := ⟨w.heap.size, 0, none⟩) n8 v3).far (p := ⟨w.heap.size, 1, none⟩) n8 v4).far (p := ⟨w.heap.size, 2, none⟩) n8 v5).far (p := ⟨w.heap.size, 3, none⟩) n8 v6
    have this := (k3.alloc o).drew.drew
    simpa [set5] using this
  · exact (((((((((((((hw.mono (by simp)).setCell (.inl hC) _).setCell (.inl hC) _).setCell (.inr (by simp)) _).setCell (.inr (by simp)) _).setCell (.inr (by simp)) _).setCell (.inr (by simp)) _).setCell (.inr (by simp)) _).setCell (.inl (Nat.le_refl _)) _).setCell (.inl (Nat.le_refl _)) _).setCell (.inl (Nat.le_refl _)) _).setCell (.inl (Nat.le_refl _)) _).alloc _).drew.drew
end Go.Proofs.Ytpaeihdkggbeoaa
