/- The walk of line.Carry: whether what comes is what was sent. Conditions: a text of less than 2^40 bytes, a byte from 0 to 255. -/
import Derived.Test.YtpaeihdkggbeoaaCrc
import Derived.Deep.RegionHeld3
import Derived.Deep.QuietTactic
import Derived.BigQuiet
import Derived.BigRegion
namespace Go.Proofs.Ytpaeihdkggbeoaa
open Go.RowKit Go.Op

/-- bytes that lie at the head of a block -/
def Bytes (w : World) (g : Nat) (l : List UInt8) : Prop := g < w.heap.size ∧ ∀ (j : Nat) (c : UInt8), l[j]? = some c → w.cell? ⟨g, j, none⟩ = some (.int .u8 c.toNat) ∧ w.frozen? ⟨g, j, none⟩ = false

theorem conv_bytes (w : World) (s : ByteArray) : ∃ (cap : Nat) (W : World), (convert 9 113 (.string s)).run Try.prog w = .ok (.slice (some ⟨w.heap.size, 0, none⟩) s.size cap) W ∧ s.size ≤ cap ∧ Bytes W w.heap.size s.data.toList ∧ Off [] w W := by
  have h := run_bytes_of_string w 9 113 5 s Try.underlying9 Try.underlying113 Try.underlying5
  generalize hcap : grownCap w s.size 0 5 = cap at h
  have hc : s.size ≤ cap := by rw [← hcap]; exact grownCap_ge _ _ _ _
  refine ⟨cap, _, h, hc, ?_, ?_⟩
  · refine ⟨by show _ < (w.drew.heap.push _).size; simp, fun j c hj => ?_⟩
    have hlt : j < s.data.size := by have := (List.getElem?_eq_some_iff.1 hj).1; simpa using this
    have hjc : s.data[j] = c := by have := (List.getElem?_eq_some_iff.1 hj).2; simpa using this
    refine ⟨?_, ?_⟩
    · show (w.drew.alloc _).cell? ⟨w.drew.heap.size, j, none⟩ = _
      rw [World.cell?_alloc_mark, bytesRow_at _ _ _ hlt, hjc]
    · show (w.drew.alloc _).frozen? ⟨w.drew.heap.size, j, none⟩ = _
      rw [World.frozen?_alloc_mark]
      have : s.data.size ≤ (bytesRow s cap).size := by simp [bytesRow]
      simp; omega
  · exact (Off.refl _ _).drew.alloc _

theorem Bytes.off {w w' : World} {g : Nat} {l : List UInt8} {k : List Nat} (h : Bytes w g l) (ho : Off k w w') (hg : g ∉ k) : Bytes w' g l :=
  ⟨Nat.lt_of_lt_of_le h.1 ho.size, fun j c hj => ⟨(ho.cell (p := ⟨g, j, none⟩) h.1 hg).trans (h.2 j c hj).1, (ho.frozen (p := ⟨g, j, none⟩) h.1 hg).trans (h.2 j c hj).2⟩⟩
theorem Bytes.conv {w : World} {g : Nat} {l : List UInt8} (h : Bytes w g l) (k cap : Nat) (hk : k ≤ l.length) : (convert 113 9 (.slice (some ⟨g, 0, none⟩) k cap)).run Try.prog w = .ok (.string ⟨(l.take k).toArray⟩) w := by
  have hl : (l.take k).length = k := by simp; omega
  have := run_convert_bytes_back (P := Try.prog) w 113 9 5 ⟨g, 0, none⟩ cap (l.take k) Try.underlying113 Try.underlying5 Try.underlying9 (fun j hj => by
    rw [addr_add]
    refine (h.2 j _ ?_).1
    have hj' : j < k := by omega
    rw [List.getElem_take]
    exact List.getElem?_eq_getElem (by omega))
  rw [hl] at this
  exact this
theorem Bytes.set_ {w : World} {g : Nat} {l : List UInt8} (h : Bytes w g l) (j : Nat) (c : UInt8) : Bytes (w.setCell ⟨g, j, none⟩ (.int .u8 c.toNat)) g (l.set j c) := by
  refine ⟨by simpa [World.setCell] using h.1, fun i d hi => ?_⟩
  have hil : i < l.length := by have := (List.getElem?_eq_some_iff.1 hi).1; simpa using this
  obtain ⟨h1, h2⟩ := h.2 i l[i] (List.getElem?_eq_getElem hil)
  have hfr : (w.setCell ⟨g, j, none⟩ (.int .u8 c.toNat)).frozen? ⟨g, i, none⟩ = w.frozen? ⟨g, i, none⟩ := by
    simp only [World.frozen?, World.setCell, Array.getElem?_modify]
    cases w.heap[g]? with
    | none => simp
    | some o => cases o <;> simp
  refine ⟨?_, by rw [hfr]; exact h2⟩
  by_cases hij : j = i
  · subst hij
    have hd : d = c := by rw [List.getElem?_set_self hil] at hi; exact (Option.some.inj hi).symm
    subst hd
    simp only [World.cell?, World.setCell, Array.getElem?_modify] at h1 ⊢
    cases hw : w.heap[g]? with
    | none => rw [hw] at h1; cases h1
    | some o =>
      rw [hw] at h1
      cases o with
      | cells cs t f =>
        have : j < cs.size := (Array.getElem?_eq_some_iff.1 h1).1
        simp [this]
      | _ => cases h1
  · have hd : d = l[i] := by
      rw [List.getElem?_set_ne hij, List.getElem?_eq_getElem hil] at hi
      exact (Option.some.inj hi).symm
    rw [World.cell?_setCell_other w ⟨g, j, none⟩ ⟨g, i, none⟩ _ (by intro e; injection e with _ e2; exact hij e2), h1, hd]

/-- does it come as it was sent? -/
def carryOk (n : Nat) (cut flip by_ : Int) : Prop := ¬ (0 ≤ cut ∧ cut < n) ∧ ¬ (by_ ≠ 0 ∧ 0 ≤ flip ∧ flip < n)
def CarryPost (w : World) (s : ByteArray) (cut flip by_ : Int) (e : Ending) (w' : World) : Prop := (∃ c : ByteArray, (c = s ↔ carryOk s.size cut flip by_) ∧ e = .returned (.string c)) ∧ Off [] w w'

theorem len_data (s : ByteArray) : s.data.toList.length = s.size := by rw [Array.length_toList]; rfl
theorem mk_take (s : ByteArray) (k : Nat) : ((⟨(s.data.toList.take k).toArray⟩ : ByteArray) = s ↔ s.size ≤ k) := by
  constructor
  · intro h
    have := congrArg ByteArray.size h
    simp only [ByteArray.size] at this
    simp at this
    omega
  · intro h
    apply ByteArray.ext
    show (s.data.toList.take k).toArray = s.data
    rw [List.take_of_length_le (by rw [len_data]; exact h)]
/-- the start of every case -/
theorem conv_at (w : World) (s : ByteArray) (X : Value) (Y Z : Value) : ∃ (cap : Nat) (W : World), (convert 9 113 (.string s)).run Try.prog (w.alloc (.cells #[X, Y, Z] 23)) = .ok (.slice (some ⟨w.heap.size + 1, 0, none⟩) s.size cap) W ∧ s.size ≤ cap ∧ Bytes W (w.heap.size + 1) s.data.toList ∧ Off [] w W ∧ Blk W w.heap.size 23 #[X, Y, Z] := by
  obtain ⟨cap, W, hrun, hcap, hB, ho⟩ := conv_bytes (w.alloc (.cells #[X, Y, Z] 23)) s
  exact ⟨cap, W, by simpa using hrun, hcap, by simpa using hB, ((Off.refl _ _).alloc _).trans_nil ho, (Blk.new w 23 #[X, Y, Z]).off ho (by simp)⟩

set_option maxRecDepth 100000 in
theorem carry_1 (s : ByteArray) (cut flip by_ : Int) (w : World) (_hs : s.size < 1099511627776) (hf : flip < 0 ∨ (0 ≤ flip ∧ (s.size : Int) ≤ flip)) (hc : cut < 0) :
    Calls Try.prog 34 #[.string s, .agg #[.int .i64 cut, .int .i64 flip, .int .u8 by_]] w (CarryPost w s cut flip by_) := by
  obtain ⟨cap, W, hrun, hcap, hB, ho, hX⟩ := conv_at w s (.int .i64 cut) (.int .i64 flip) (.int .u8 by_)
  have hcX := hX.cell
  have hcv := hB.conv s.size cap (by rw [len_data]; exact Nat.le_refl _)
  have hok : carryOk s.size cut flip by_ := ⟨by omega, by omega⟩
  have HOK := Lib.hid hok
  clear hok
  rcases hf with hf | ⟨hf0, hf⟩
  all_goals
    go_enter Try.func34, Try.ntmps34
    go_wp2
    go_ret
    exact ⟨⟨_, ⟨fun _ => HOK.out, fun _ => (mk_take s _).2 (Nat.le_refl _)⟩, rfl⟩, ho⟩

set_option maxRecDepth 100000 in
theorem carry_2 (s : ByteArray) (c : Nat) (flip by_ : Int) (w : World) (_hs : s.size < 1099511627776) (hf : flip < 0 ∨ (0 ≤ flip ∧ (s.size : Int) ≤ flip)) (hc2 : c < 9223372036854775808) :
    Calls Try.prog 34 #[.string s, .agg #[.int .i64 c, .int .i64 flip, .int .u8 by_]] w (CarryPost w s c flip by_) := by
  obtain ⟨cap, W, hrun, hcap, hB, ho, hX⟩ := conv_at w s (.int .i64 c) (.int .i64 flip) (.int .u8 by_)
  obtain ⟨k, hk, hk1⟩ : ∃ k, k = min c s.size ∧ k ≤ s.size := ⟨_, rfl, by omega⟩
  have hmin : ∀ (ts : Array TypeId) (x : World), (Builtin.min_ ts 3 #[.int .i64 c, .int .i64 s.size]).run Try.prog x = .ok (.int .i64 k) x := by
    intro ts x
    simp [Builtin.min_, Builtin.min2]
    split <;> omega
  have hcX := hX.cell
  have hcv := hB.conv k cap (by rw [len_data]; exact hk1)
  have hok : s.size ≤ k ↔ carryOk s.size c flip by_ := ⟨fun h => ⟨by omega, by omega⟩, fun h => by have := h.1; omega⟩
  have HOK := Lib.hid hok
  clear hok hk
  have hc : 0 ≤ (c : Int) := by omega
  rcases hf with hf | ⟨hf0, hf⟩
  all_goals
    go_enter Try.func34, Try.ntmps34
    go_wp2
    go_ret
    exact ⟨⟨_, ⟨fun h => HOK.out.1 ((mk_take s _).1 h), fun h => (mk_take s _).2 (HOK.out.2 h)⟩, rfl⟩, ho⟩

theorem xor_byte (c y : UInt8) : bits BinOp.xor IntKind.u8 (c.toNat : Int) (y.toNat : Int) = ((c ^^^ y).toNat : Int) := by
  rw [u8_xor_nat _ _ c.toNat_lt y.toNat_lt, UInt8.toNat_xor]
theorem xor_self_iff (c y : UInt8) : c ^^^ y = c ↔ y.toNat = 0 := by
  constructor
  · intro h
    have : y = 0 := by
      have h2 : c ^^^ (c ^^^ y) = c ^^^ c := by rw [h]
      rw [← UInt8.xor_assoc, UInt8.xor_self, UInt8.zero_xor] at h2
      exact h2
    rw [this]; rfl
  · intro h
    have : y = 0 := UInt8.toNat_inj.1 (by rw [h]; rfl)
    rw [this]; simp
theorem mk_set (s : ByteArray) (k j : Nat) (y : UInt8) (hj : j < s.size) (hk : k ≤ s.size) :
    ((⟨((s.data.toList.set j (s[j] ^^^ y)).take k).toArray⟩ : ByteArray) = s ↔ s.size ≤ k ∧ y.toNat = 0) := by
  have hj' : j < s.data.toList.length := by rw [len_data]; exact hj
  constructor
  · intro h
    have hs := congrArg ByteArray.size h
    simp only [ByteArray.size] at hs
    simp at hs
    have hsk : s.size ≤ k := by omega
    refine ⟨hsk, ?_⟩
    have h2 : (s.data.toList.set j (s[j] ^^^ y)).take k = s.data.toList := by
      have := congrArg (fun b : ByteArray => b.data.toList) h
      simpa using this
    have h3 := congrArg (fun l : List UInt8 => l[j]?) h2
    simp only [List.getElem?_take] at h3
    rw [if_pos (by omega), List.getElem?_set_self hj', List.getElem?_eq_getElem hj'] at h3
    have h4 := Option.some.inj h3
    rw [← xor_self_iff s[j] y, h4]
    simp
    rfl
  · intro ⟨h1, h2⟩
    apply ByteArray.ext
    show ((s.data.toList.set j (s[j] ^^^ y)).take k).toArray = s.data
    rw [(xor_self_iff s[j] y).2 h2, List.take_of_length_le (by simp; exact h1)]
    have : s.data.toList.set j s[j] = s.data.toList := List.set_getElem_self hj'
    rw [this]

set_option maxRecDepth 100000 in
set_option maxHeartbeats 1000000 in
theorem carry_3 (s : ByteArray) (cut : Int) (j : Nat) (y : UInt8) (w : World) (_hs : s.size < 1099511627776) (hj : j < s.size) (hc : cut < 0) :
    Calls Try.prog 34 #[.string s, .agg #[.int .i64 cut, .int .i64 j, .int .u8 y.toNat]] w (CarryPost w s cut j y.toNat) := by
  obtain ⟨cap, W, hrun, hcap, hB, ho, hX⟩ := conv_at w s (.int .i64 cut) (.int .i64 j) (.int .u8 y.toNat)
  have hcX := hX.cell
  have hlX := hX.lt
  have hlB := hB.1
  obtain ⟨hcj, hfj⟩ := hB.2 j s[j] (by rw [List.getElem?_eq_getElem (by rw [len_data]; exact hj)]; rfl)
  have hB' := hB.set_ j (s[j] ^^^ y)
  rw [← xor_byte] at hB'
  have hcv : (convert 113 9 (.slice (some ⟨w.heap.size + 1, 0, none⟩) s.size cap)).run Try.prog (W.setCell ⟨w.heap.size + 1, j, none⟩ (.int .u8 (bits BinOp.xor IntKind.u8 (s[j].toNat : Int) (y.toNat : Int)))).drew = _ := Bytes.conv (w := (W.setCell ⟨w.heap.size + 1, j, none⟩ (.int .u8 (bits BinOp.xor IntKind.u8 (s[j].toNat : Int) (y.toNat : Int)))).drew) hB' s.size cap (by simp)
  have hok : (s.size ≤ s.size ∧ y.toNat = 0) ↔ carryOk s.size cut j y.toNat := ⟨fun h => ⟨by omega, by omega⟩, fun h => ⟨Nat.le_refl _, by have := h.2; omega⟩⟩
  have HOK := Lib.hid hok
  have HMK := Lib.hid (mk_set s s.size j y hj (Nat.le_refl _))
  clear hok hB'
  go_enter Try.func34, Try.ntmps34
  go_wp2
  go_region
  go_wp2
  go_ret
  exact ⟨⟨_, ⟨fun h => HOK.out.1 (HMK.out.1 h), fun h => HMK.out.2 (HOK.out.2 h)⟩, rfl⟩, (ho.setCell (.inl (by simp)) _).drew⟩
set_option maxRecDepth 100000 in
set_option maxHeartbeats 1000000 in
theorem carry_4 (s : ByteArray) (c : Nat) (j : Nat) (y : UInt8) (w : World) (_hs : s.size < 1099511627776) (hj : j < s.size) (_hc2 : c < 9223372036854775808) :
    Calls Try.prog 34 #[.string s, .agg #[.int .i64 c, .int .i64 j, .int .u8 y.toNat]] w (CarryPost w s c j y.toNat) := by
  obtain ⟨cap, W, hrun, hcap, hB, ho, hX⟩ := conv_at w s (.int .i64 c) (.int .i64 j) (.int .u8 y.toNat)
  obtain ⟨k, hk, hk1⟩ : ∃ k, k = min c s.size ∧ k ≤ s.size := ⟨_, rfl, by omega⟩
  have hmin : ∀ (ts : Array TypeId) (x : World), (Builtin.min_ ts 3 #[.int .i64 c, .int .i64 s.size]).run Try.prog x = .ok (.int .i64 k) x := by
    intro ts x
    simp [Builtin.min_, Builtin.min2]
    split <;> omega
  have hc : 0 ≤ (c : Int) := by omega
  have hcX := hX.cell
  have hlX := hX.lt
  have hlB := hB.1
  obtain ⟨hcj, hfj⟩ := hB.2 j s[j] (by rw [List.getElem?_eq_getElem (by rw [len_data]; exact hj)]; rfl)
  have hB' := hB.set_ j (s[j] ^^^ y)
  rw [← xor_byte] at hB'
  have hcv : (convert 113 9 (.slice (some ⟨w.heap.size + 1, 0, none⟩) k cap)).run Try.prog (W.setCell ⟨w.heap.size + 1, j, none⟩ (.int .u8 (bits BinOp.xor IntKind.u8 (s[j].toNat : Int) (y.toNat : Int)))).drew = _ := Bytes.conv (w := (W.setCell ⟨w.heap.size + 1, j, none⟩ (.int .u8 (bits BinOp.xor IntKind.u8 (s[j].toNat : Int) (y.toNat : Int)))).drew) hB' k cap (by simp; exact hk1)
  have hok : (s.size ≤ k ∧ y.toNat = 0) ↔ carryOk s.size c j y.toNat := ⟨fun h => ⟨by omega, by omega⟩, fun h => by have h1 := h.1; have h2 := h.2; omega⟩
  have HOK := Lib.hid hok
  have HMK := Lib.hid (mk_set s k j y hj hk1)
  clear hok hB' hk
  go_enter Try.func34, Try.ntmps34
  go_wp2
  go_region
  go_wp2
  go_ret
  exact ⟨⟨_, ⟨fun h => HOK.out.1 (HMK.out.1 h), fun h => HMK.out.2 (HOK.out.2 h)⟩, rfl⟩, (ho.setCell (.inl (by simp)) _).drew⟩

theorem carry_any (s : ByteArray) (cut flip : Int) (y : UInt8) (w : World) (hs : s.size < 1099511627776) (hc : cut < 9223372036854775808) :
    Calls Try.prog 34 #[.string s, .agg #[.int .i64 cut, .int .i64 flip, .int .u8 y.toNat]] w (CarryPost w s cut flip y.toNat) := by
  by_cases hf : 0 ≤ flip ∧ flip < s.size
  · obtain ⟨j, rfl⟩ := Int.eq_ofNat_of_zero_le hf.1
    by_cases h : cut < 0
    · exact carry_3 s cut j y w hs (by omega) h
    · obtain ⟨c, rfl⟩ := Int.eq_ofNat_of_zero_le (Int.not_lt.1 h)
      exact carry_4 s c j y w hs (by omega) (by omega)
  · have hf' : flip < 0 ∨ (0 ≤ flip ∧ (s.size : Int) ≤ flip) := by omega
    by_cases h : cut < 0
    · exact carry_1 s cut flip _ w hs hf' h
    · obtain ⟨c, rfl⟩ := Int.eq_ofNat_of_zero_le (Int.not_lt.1 h)
      exact carry_2 s c flip _ w hs hf' (by omega)
end Go.Proofs.Ytpaeihdkggbeoaa
