/- hawserref06: find, dir, right: the walks. Conditions: no list is longer than 2^40; no string is longer than Go's can be. -/
import Derived.Test.YtpaeihdkggbeoaaGreatDoorRef4
namespace Go.Proofs.YtpaeihdkggbeoaaGreatDoor
open Go.RowKit Go.Op

/-- what find answers -/
def FindAt (t : List Node) (s : ByteArray) (r : Int) : Prop :=
  (r = -1 ∧ ∀ (j : Nat) (n : Node), t[j]? = some n → n.path ≠ s) ∨ ∃ (i : Nat) (n : Node), r = (i : Int) ∧ t[i]? = some n ∧ n.path = s ∧ ∀ (j : Nat) (m : Node), j < i → t[j]? = some m → m.path ≠ s
set_option maxRecDepth 100000 in
theorem find_any (p : Option Addr) (t : List Node) (n cap : Nat) (s : ByteArray) (w : World) (hR : Row w p t) (hn : t.length = n) (hbig : n ≤ 1099511627776) :
    Calls Tryz.prog 87 #[.slice p n cap, .string s] w fun e w' => ∃ r, e = .returned (.int .i64 r) ∧ FindAt t s r ∧ Off [] w w' := by
  have HN := Lib.hid hn
  have HR := Lib.hid hR
  clear hn hR
  go_enter Tryz.func87, Tryz.ntmps87
  go_wp2_with fail
  go_loopw [5] (fun x wr => ∃ i : Nat, x = .int .i64 i ∧ i ≤ n ∧ Off [] w wr ∧ Hid (∀ (j : Nat) (m : Node), j < i → t[j]? = some m → m.path ≠ s)) (fun x _ => n - (intOf x).toNat)
  case atStart => exact ⟨0, rfl, by omega, Off.refl _ _, Lib.hid (fun j m hj => by omega)⟩
  case round =>
    obtain ⟨i, rfl, hi, ho, hall⟩ := hrel
    by_cases hlt : i < n
    · have hil : i < t.length := by rw [HN.out]; exact hlt
      obtain ⟨a, rfl, hna, hab⟩ := (HR.out.off ho).get i hil
      have hgi := List.getElem?_eq_getElem hil
      generalize t[i] = nd at *
      have c0 := hna.path
      have HGI := Lib.hid hgi
      clear hna hgi hil
      by_cases hxy : nd.path = s
      · have hbq : (nd.path.toList == s.toList) = true := by rw [beq_bs, hxy]; simp
        have HXY := Lib.hid hxy
        clear hxy
        go_wp2_with fail
        go_ret
        exact ⟨_, rfl, .inr ⟨i, nd, rfl, HGI.out, HXY.out, hall.out⟩, ho⟩
      · have hbq : (nd.path.toList == s.toList) = false := by rw [beq_bs]; simp [hxy]
        have HXY := Lib.hid hxy
        clear hxy
        go_wp2_with fail
        refine ⟨⟨i + 1, by congr 1, by omega, ho, Lib.hid ?_⟩, by simp only [intOf]; omega⟩
        intro j m hj hm
        rcases Nat.lt_or_ge j i with h | h
        · exact hall.out j m h hm
        · obtain rfl : j = i := by omega
          rw [HGI.out] at hm
          cases hm
          exact HXY.out
    · obtain rfl : i = n := by omega
      go_wp2_with fail
      go_ret
      refine ⟨-1, rfl, .inl ⟨rfl, fun j m hm => hall.out j m ?_ hm⟩, ho⟩
      rw [← HN.out]
      exact (List.getElem?_eq_some_iff.1 hm).1
/-- the reference's dir -/
def rdir (t : List Node) (p : Str) : Bool := decide (p = []) || ((t.find? fun n => decide (n.p = p)).map fun n => decide (n.kind = 2)).getD false
theorem rdir_find {t : List Node} {s : ByteArray} {r : Int} (h : FindAt t s r) (hs : str s ≠ []) :
    (r = -1 ∧ rdir t (str s) = false) ∨ ∃ (i : Nat) (n : Node), r = (i : Int) ∧ t[i]? = some n ∧ rdir t (str s) = decide (n.kind = 2) := by
  unfold rdir
  rw [decide_eq_false hs, Bool.false_or]
  rcases h with ⟨h1, h2⟩ | ⟨i, n, h1, h2, h3, h4⟩
  · refine .inl ⟨h1, ?_⟩
    rw [List.find?_eq_none.2]
    · rfl
    · intro m hm
      obtain ⟨j, hj⟩ := List.getElem?_of_mem hm
      have h5 : ¬ m.p = str s := fun e => h2 j m hj (str_inj e)
      simp [h5]
  · refine .inr ⟨i, n, h1, h2, ?_⟩
    obtain ⟨hi, hii⟩ := List.getElem?_eq_some_iff.1 h2
    have : (t.find? fun n => decide (n.p = str s)) = some n := by
      rw [List.find?_eq_some_iff_getElem]
      refine ⟨by simp [Node.p, h3], i, hi, hii, fun j hj => ?_⟩
      have h5 : ¬ t[j].p = str s := fun e => h4 j t[j] hj (List.getElem?_eq_getElem _) (str_inj e)
      simp [h5]
    rw [this]; rfl
set_option maxRecDepth 100000 in
theorem rdir_any (p : Option Addr) (t : List Node) (n cap : Nat) (s : ByteArray) (w : World) (hR : Row w p t) (hn : t.length = n) (hbig : n ≤ 1099511627776) :
    Calls Tryz.prog 63 #[.slice p n cap, .string s] w fun e w' => e = .returned (.bool (rdir t (str s))) ∧ Off [] w w' := by
  have hE : s.toList = [] ↔ str s = [] := by rw [toList_str]
  by_cases hs : str s = []
  · have g := hE.2 hs
    have g' : s.toList.isEmpty = true := by simp [g]
    have HS := Lib.hid hs
    clear hE hs hR
    go_enter Tryz.func63, Tryz.ntmps63
    go_wp2_with fail
    go_ret
    exact ⟨by unfold rdir; rw [decide_eq_true HS.out]; rfl, Off.refl _ _⟩
  · have g : ¬ s.toList = [] := fun e => hs (hE.1 e)
    have g' : s.toList.isEmpty = false := by simpa using g
    have HS := Lib.hid hs
    have HR := Lib.hid hR
    have HN := Lib.hid hn
    clear hE hs hR hn
    go_enter Tryz.func63, Tryz.ntmps63
    go_wp2_with fail
    refine (find_any p t n cap s _ HR.out HN.out hbig).mono ?_
    rintro e w1 ⟨r, rfl, hf, ho⟩
    rcases rdir_find hf HS.out with ⟨h1, h2⟩ | ⟨i, nd, h1, h2, h3⟩
    · subst h1
      have H2 := Lib.hid h2
      clear h2 hf
      go_wp2_with fail
      go_ret
      exact ⟨by rw [H2.out]; rfl, ho⟩
    · subst h1
      obtain ⟨hi, hii⟩ := List.getElem?_eq_some_iff.1 h2
      obtain ⟨a, rfl, hna, hab⟩ := (HR.out.off ho).get i hi
      rw [hii] at hna
      have hin : i < n := by rw [← HN.out]; exact hi
      have c1 := hna.kind
      have H3 := Lib.hid h3
      clear hna hf h2 h3 hi hii
      go_wp2_with fail
      go_ret
      exact ⟨by rw [H3.out, ← beq2]; rfl, ho⟩
set_option maxRecDepth 100000 in
theorem rright_any (n : Node) (w : World) (hbig : n.data.size ≤ maxLen) : Calls Tryz.prog 62 #[n.val] w fun e w' => e = .returned (.bool (rightN n)) ∧ Off [] w w' := by
  obtain ⟨path, kind, data, mode⟩ := n
  replace hbig : data.size ≤ maxLen := hbig
  unfold maxLen at hbig
  have hE : data.toList = [] ↔ data.size = 0 := by rw [toList_str, ← str_size]; simp
  unfold Node.val
  dsimp only
  by_cases h1 : kind = 1
  · subst h1
    clear hE
    by_cases a : data.size ≤ 65536
    · by_cases b : 0 ≤ mode
      · go_enter Tryz.func62, Tryz.ntmps62
        go_wp2_with fail
        go_ret
        exact ⟨by simp [rightN, a, b], (Off.refl _ _).alloc _⟩
      · go_enter Tryz.func62, Tryz.ntmps62
        go_wp2_with fail
        go_ret
        exact ⟨by simp [rightN, a]; omega, (Off.refl _ _).alloc _⟩
    · go_enter Tryz.func62, Tryz.ntmps62
      go_wp2_with fail
      go_ret
      exact ⟨by simp [rightN, a], (Off.refl _ _).alloc _⟩
  by_cases h2 : kind = 2
  · subst h2
    clear h1
    by_cases a : data.size = 0
    · have g := hE.2 a
      have g' : data.toList.isEmpty = true := by simp [g]
      clear hE
      go_enter Tryz.func62, Tryz.ntmps62
      go_wp2_with fail
      go_ret
      exact ⟨by simp [rightN, a, beq0], (Off.refl _ _).alloc _⟩
    · have g : ¬ data.toList = [] := fun e => a (hE.1 e)
      have g' : data.toList.isEmpty = false := by simpa using g
      clear hE
      go_enter Tryz.func62, Tryz.ntmps62
      go_wp2_with fail
      go_ret
      exact ⟨by simp [rightN, a], (Off.refl _ _).alloc _⟩
  by_cases h3 : kind = 3
  · subst h3
    clear h1 h2 hE
    have hsl := str_size data
    have HSL := Lib.hid hsl
    clear hsl
    have hB := Blk.new w 40 #[.string path, .int .i64 3, .string data, .int .i64 mode]
    have HB := Lib.hid hB
    clear hB
    go_enter Tryz.func62, Tryz.ntmps62
    go_wp2_with fail
    go_loopw [3] (fun x wr => ∃ i : Nat, x = .int .i64 i ∧ i ≤ data.size ∧ (Off [] w wr ∧ Blk wr w.heap.size 40 #[.string path, .int .i64 3, .string data, .int .i64 mode]) ∧ Hid (0 ∉ (str data).take i)) (fun x _ => data.size - (intOf x).toNat)
    case atStart => exact ⟨0, rfl, by omega, ⟨(Off.refl _ _).alloc _, HB.out⟩, Lib.hid (by simp)⟩
    case round =>
      obtain ⟨i, rfl, hi, ⟨ho, hB⟩, hall⟩ := hrel
      have hc := hB.cell
      have hlB := hB.lt
      by_cases hlt : i < data.size
      · obtain ⟨x, hx⟩ : ∃ x : UInt8, data[i]'hlt = x := ⟨_, rfl⟩
        have hxl : (str data)[i]? = some x := by rw [← hx, List.getElem?_eq_getElem (by rw [HSL.out]; exact hlt)]; rfl
        have HXL := Lib.hid hxl
        clear hxl
        by_cases hx0 : x.toNat = 0
        · have f2 : ((x.toNat : Int) == 0) = true := by simp [hx0]
          have HX := Lib.hid (show x = 0 from UInt8.toNat_inj.1 hx0)
          clear hx0
          go_wp2_with fail
          go_ret
          have hm : 0 ∈ str data := by have := List.mem_of_getElem? HXL.out; rw [HX.out] at this; exact this
          exact ⟨by simp [rightN, hm], ho⟩
        · have f2 : ((x.toNat : Int) == 0) = false := by simp; omega
          have HX := Lib.hid (show x ≠ 0 from fun e => hx0 (by rw [e]; rfl))
          clear hx0
          go_wp2_with fail
          refine ⟨⟨i + 1, by congr 1, by omega, ⟨ho, hB⟩, Lib.hid ?_⟩, by simp only [intOf]; omega⟩
          rw [take_get HXL.out, List.mem_append, List.mem_singleton]
          exact fun h => h.elim hall.out (fun e => HX.out e.symm)
      · obtain rfl : i = data.size := by omega
        have hm : 0 ∉ str data := by have := hall.out; rw [List.take_of_length_le (by rw [HSL.out]; exact Nat.le_refl _)] at this; exact this
        have HM := Lib.hid hm
        clear hm
        by_cases a : data.size = 0
        · have a1 : ((1 : Int) ≤ (data.size : Int)) = False := by simp; omega
          go_wp2_with fail
          go_ret
          exact ⟨by simp [rightN, a], ho⟩
        · have a1 : ((1 : Int) ≤ (data.size : Int)) = True := by simp; omega
          by_cases b : data.size ≤ 400
          · go_wp2_with fail
            go_ret
            exact ⟨by simp [rightN, a, b, HM.out, beq0], ho⟩
          · go_wp2_with fail
            go_ret
            exact ⟨by simp [rightN, a, b], ho⟩
  · have k1 : (kind == 1) = false := beq_eq_false_iff_ne.2 h1
    have k2 : (kind == 2) = false := beq_eq_false_iff_ne.2 h2
    have k3 : (kind == 3) = false := beq_eq_false_iff_ne.2 h3
    clear hE
    go_enter Tryz.func62, Tryz.ntmps62
    go_wp2_with fail
    go_ret
    exact ⟨by simp [rightN, h1, h2, h3], (Off.refl _ _).alloc _⟩
end Go.Proofs.YtpaeihdkggbeoaaGreatDoor
