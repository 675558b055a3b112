/- strings.IndexRune at a slash and a nought, strings.IndexAny and ContainsAny at the same, for every string. Conditions: none beyond what each contract states. -/
import Derived.Test.YtpaeihdkggbeoaaGreatDoorStr
import Derived.Lib.OthersKept
import Derived.Laws.Runes
import Derived.Laws.RangeAny
import Derived.Lib.TrimUEq
import Derived.Lib.MapLaws
import Derived.LoopTactic
import Derived.WalkMore
import Derived.Deep.QuietTactic
import Derived.BigQuiet
namespace Go.Proofs.YtpaeihdkggbeoaaGreatDoor
open Go.RowKit Go.Op

theorem Off.iterAt {l : List Nat} {w w' : World} (h : Off l w w') {k : Nat} (hk : w.heap.size ≤ k) (s : ByteArray) (p : Nat) : Off l w (w'.iterAt k s p) :=
  ⟨h.os, h.tape, h.output, by simpa [World.iterAt] using h.size, fun i hi hn => by
    show (w'.heap.setIfInBounds k _)[i]? = _
    rw [Array.getElem?_setIfInBounds_ne (by omega)]
    exact h.block i hi hn⟩

theorem vrune_any (r : Int) (w : World) : Calls Tryz.prog 125 #[.int .i32 r] w fun e w' => e = .returned (.bool (Lib.validRune r)) ∧ w = w' :=
  (Tryz.utf8_ValidRune r w).mono fun _ _ ⟨a, b⟩ => ⟨a, b.symm⟩
def slashNil : ByteArray := ⟨#[47, 0]⟩

set_option maxRecDepth 100000 in
set_option maxHeartbeats 4000000 in
/-- a rune that is no byte of ASCII stands not in the two -/
theorem irune_err (w : World) :
    Calls Tryz.prog 113 #[.string ⟨#[47, 0]⟩, .int .i32 65533] w fun e w' => e = .returned (.int .i64 (-1)) ∧ Off [] w w' := by
  go_enter Tryz.func113, Tryz.ntmps113
  go_wp2_with fail
  go_loopw [5] (fun _ wr => ∃ p : Nat, p ≤ 2 ∧ wr = w.iter ⟨#[47, 0]⟩ p) (fun _ wr => 2 - wr.iterPos w.heap.size)
  case atStart => exact ⟨0, by omega, rfl⟩
  case round =>
    obtain ⟨p, hp, rfl⟩ := hrel
    match p, hp with
    | 0, _ =>
      have hnx := fun ty => run_next_ascii (P := Tryz.prog) w ⟨#[47, 0]⟩ 0 ty (by decide) (by decide)
      go_wp2_with fail
      exact ⟨⟨1, by omega, rfl⟩, by simp⟩
    | 1, _ =>
      have hnx := fun ty => run_next_ascii (P := Tryz.prog) w ⟨#[47, 0]⟩ 1 ty (by decide) (by decide)
      go_wp2_with fail
      exact ⟨⟨2, by omega, rfl⟩, by simp⟩
    | 2, _ =>
      have hnx := fun ty => run_next_end (P := Tryz.prog) w ⟨#[47, 0]⟩ 2 ty (by decide)
      go_wp2_with fail
      go_ret
      exact ⟨rfl, (Off.refl _ _).alloc _⟩
set_option maxRecDepth 100000 in
set_option maxHeartbeats 4000000 in
theorem irune_bad (r : Int) (w : World) (h1 : 128 ≤ r) (h2 : r ≤ 1114111) (h3 : r ≠ 65533) (hv : Lib.validRune r = false) :
    Calls Tryz.prog 113 #[.string ⟨#[47, 0]⟩, .int .i32 r] w fun e w' => e = .returned (.int .i64 (-1)) ∧ Off [] w w' := by
  have H := Lib.hid hv
  clear hv
  have e3 : (r == 65533) = false := beq_eq_false_iff_ne.2 h3
  have g1 : decide (r < 128) = false := decide_eq_false (by omega)
  have g0 : decide (0 ≤ r) = true := decide_eq_true (by omega)
  go_enter Tryz.func113, Tryz.ntmps113
  go_wp2_with fail
  refine (vrune_any r _).mono ?_
  rintro e w' ⟨rfl, e1⟩
  subst e1
  rw [H.out]
  go_wp2_with fail
  go_ret
  exact ⟨rfl, Off.refl _ _⟩
/-- a slash and a nought: bytes -/
theorem ibyte_nil (c : Int) (w : World) : Calls Tryz.prog 124 #[.string ⟨#[]⟩, .int .u8 c] w fun e w' => e = .returned (.int .i64 (-1)) ∧ w = w' :=
  (Tryz.strings_IndexByte ⟨#[]⟩ c w).mono fun _ _ ⟨a, b⟩ => ⟨a, b.symm⟩
set_option maxRecDepth 100000 in
set_option maxHeartbeats 4000000 in
theorem irune_two (r : Int) (w : World) (h1 : 128 ≤ r) (h2 : r ≤ 1114111) (h3 : r ≠ 65533) (hv : Lib.validRune r = true) (c : ByteArray) (x y : UInt8) (hc : Utf8.encode r = c) (hs : c = ⟨#[x, y]⟩) (hy : 128 ≤ y.toNat) :
    Calls Tryz.prog 113 #[.string ⟨#[47, 0]⟩, .int .i32 r] w fun e w' => e = .returned (.int .i64 (-1)) ∧ Off [] w w' := by
  have H := Lib.hid hv
  clear hv
  subst hs
  have e3 : (r == 65533) = false := beq_eq_false_iff_ne.2 h3
  have g1 : decide (r < 128) = false := decide_eq_false (by omega)
  have g0 : decide (0 ≤ r) = true := decide_eq_true (by omega)
  have gy : ((((⟨#[47, 0]⟩ : ByteArray)[1]'(by decide)).toNat : Int) != (((⟨#[x, y]⟩ : ByteArray)[1]'(by show 1 < 2; omega)).toNat : Int)) = true := by
    show ((0 : Int) != (y.toNat : Int)) = true
    simp
    omega
  go_enter Tryz.func113, Tryz.ntmps113
  go_wp2_with fail
  refine (vrune_any r _).mono ?_
  rintro e w' ⟨rfl, e1⟩
  subst e1
  rw [H.out]
  go_wp2_with fail
  go_step3
  go_wp2_with fail
  go_loopw [9] (fun i wr => i = .int .i64 1 ∧ wr = w) (fun _ _ => 0)
  case atStart => exact ⟨rfl, rfl⟩
  case round =>
    obtain ⟨rfl, rfl⟩ := hrel
    go_wp2_with fail
    go_step3
    go_wp2_with fail
    go_region
    go_wp2_with fail
    have gw : IntKind.i64.wrap 2 = 2 := by rfl
    refine code_gen (fun W => Off [] wr W) ((Off.refl _ _).drew) ?_
    rintro W ho
    go_quiet ((go_at_call 124; exact Calls.quiet_of_same (Tryz.strings_IndexByte ByteArray.empty _ _)))
    go_wp2_with fail
    rw [Exit.noGoto_ret]
    go_wp2_with fail
    try rw [Exit.noGoto_ret]
    go_ret
    exact ⟨rfl, ho.drewN _⟩
set_option maxRecDepth 100000 in
set_option maxHeartbeats 4000000 in
theorem irune_more (r : Int) (w : World) (h1 : 128 ≤ r) (h2 : r ≤ 1114111) (h3 : r ≠ 65533) (hv : Lib.validRune r = true) (c : ByteArray) (hc : Utf8.encode r = c) (hs : 3 ≤ c.size) (hs4 : c.size ≤ 4) :
    Calls Tryz.prog 113 #[.string ⟨#[47, 0]⟩, .int .i32 r] w fun e w' => e = .returned (.int .i64 (-1)) ∧ Off [] w w' := by
  have H := Lib.hid hv
  clear hv
  have e3 : (r == 65533) = false := beq_eq_false_iff_ne.2 h3
  have g1 : decide (r < 128) = false := decide_eq_false (by omega)
  have g0 : decide (0 ≤ r) = true := decide_eq_true (by omega)
  go_enter Tryz.func113, Tryz.ntmps113
  go_wp2_with fail
  refine (vrune_any r _).mono ?_
  rintro e w' ⟨rfl, e1⟩
  subst e1
  rw [H.out]
  go_wp2_with fail
  go_step3
  go_wp2_with fail
  go_loopw [9] (fun i wr => i = .int .i64 ((c.size : Int) - 1) ∧ wr = w) (fun _ _ => 0)
  case atStart => exact ⟨rfl, rfl⟩
  case round =>
    obtain ⟨rfl, rfl⟩ := hrel
    go_wp2_with fail
    rw [Exit.noGoto_ret]
    go_ret
    exact ⟨rfl, Off.refl _ _⟩

theorem irune_high (r : Int) (w : World) (h1 : 128 ≤ r) (h2 : r ≤ 1114111) :
    Calls Tryz.prog 113 #[.string ⟨#[47, 0]⟩, .int .i32 r] w fun e w' => e = .returned (.int .i64 (-1)) ∧ Off [] w w' := by
  by_cases h3 : r = 65533
  · subst h3; exact irune_err w
  · cases hv : Lib.validRune r
    · exact irune_bad r w h1 h2 h3 hv
    · have hu : Utf8.valid r = true := by
        simp [Lib.validRune] at hv
        simp [Utf8.valid]
        omega
      obtain ⟨k1, k2, k3⟩ := encode_facts r hu h1
      by_cases hs : (Utf8.encode r).size = 2
      · obtain ⟨c, hc⟩ : ∃ c, Utf8.encode r = c := ⟨_, rfl⟩
        rw [hc] at hs k3
        obtain ⟨⟨l⟩⟩ := c
        match l, hs with
        | [x, y], _ => exact irune_two r w h1 h2 h3 hv _ x y hc rfl (k3 (by show 1 < 2; omega))
      · exact irune_more r w h1 h2 h3 hv _ rfl (by omega) k2
theorem irune_low (r : Int) (w : World) (h0 : 0 ≤ r) (h1 : r < 128) :
    Calls Tryz.prog 113 #[.string ⟨#[47, 0]⟩, .int .i32 r] w fun e w' => e = .returned (.int .i64 (Lib.indexByte [47, 0] r.toNat.toUInt8)) ∧ Off [] w w' :=
  (Tryz.strings_IndexRune_ascii ⟨#[47, 0]⟩ r w h0 h1).mono fun _ _ ⟨a, b⟩ => ⟨a, b ▸ Off.refl _ _⟩

/-- what a step of the decoder passes over behind a byte from 128 on: bytes from 128 on -/
theorem skip_high (s : ByteArray) (p : Nat) (hp : p < s.size) (hx : 128 ≤ ((str s).getD p 0).toNat) :
    p + (Utf8.decode s p).2 ≤ s.size ∧ 1 ≤ (Utf8.decode s p).2 ∧ ∀ j b, p ≤ j → j < p + (Utf8.decode s p).2 → (str s)[j]? = some b → 128 ≤ b.toNat := by
  have hl := str_size s
  rw [Lib.decode_N]
  show p + (Lib.decodeN ((str s).length - p) ((str s).getD p 0).toNat ((str s).getD (p + 1) 0).toNat ((str s).getD (p + 2) 0).toNat ((str s).getD (p + 3) 0).toNat).2 ≤ s.size ∧ 1 ≤ (Lib.decodeN ((str s).length - p) ((str s).getD p 0).toNat ((str s).getD (p + 1) 0).toNat ((str s).getD (p + 2) 0).toNat ((str s).getD (p + 3) 0).toNat).2 ∧ ∀ j b, p ≤ j → j < p + (Lib.decodeN ((str s).length - p) ((str s).getD p 0).toNat ((str s).getD (p + 1) 0).toNat ((str s).getD (p + 2) 0).toNat ((str s).getD (p + 3) 0).toNat).2 → (str s)[j]? = some b → 128 ≤ b.toNat
  have hget : ∀ j b, (str s)[j]? = some b → (str s).getD j 0 = b := fun j b h => by simp [List.getD, h]
  rcases Lib.decodeN_shape ((str s).length - p) ((str s).getD p 0).toNat ((str s).getD (p + 1) 0).toNat ((str s).getD (p + 2) 0).toNat ((str s).getD (p + 3) 0).toNat with ⟨c, e⟩ | ⟨c1, c2, c3, cv, e⟩ | ⟨c1, c2, c3, c4, cv, cs, e⟩ | ⟨c1, c2, c3, c4, c5, cv, cs, e⟩ | e
  · omega
  · rw [e]
    refine ⟨by dsimp only; omega, by dsimp only; omega, fun j b hj hj2 hb => ?_⟩
    dsimp only at hj2
    have hb' : ((str s).getD j 0).toNat = b.toNat := by rw [hget j b hb]
    obtain rfl | rfl : j = p ∨ j = p + 1 := by omega
    all_goals omega
  · rw [e]
    refine ⟨by dsimp only; omega, by dsimp only; omega, fun j b hj hj2 hb => ?_⟩
    dsimp only at hj2
    have hb' : ((str s).getD j 0).toNat = b.toNat := by rw [hget j b hb]
    obtain rfl | rfl | rfl : j = p ∨ j = p + 1 ∨ j = p + 2 := by omega
    all_goals omega
  · rw [e]
    refine ⟨by dsimp only; omega, by dsimp only; omega, fun j b hj hj2 hb => ?_⟩
    dsimp only at hj2
    have hb' : ((str s).getD j 0).toNat = b.toNat := by rw [hget j b hb]
    obtain rfl | rfl | rfl | rfl : j = p ∨ j = p + 1 ∨ j = p + 2 ∨ j = p + 3 := by omega
    all_goals omega
  · rw [e]
    refine ⟨by dsimp only; omega, by dsimp only; omega, fun j b hj hj2 hb => ?_⟩
    dsimp only at hj2
    obtain rfl : j = p := by omega
    rw [← hget j b hb]; exact hx

def AnyIt (w : World) (s : ByteArray) (p : Nat) (wr : World) : Prop := p ≤ s.size ∧ wr.heap[w.heap.size]? = some (.stringIter s p) ∧ Off [] w wr ∧ Lib.NoAny (str s) [47, 0] p
theorem shouldAscii_any (n : Int) (w : World) : Calls Tryz.prog 114 #[.int .i64 n] w fun e w' => e = .returned (.bool (decide (8 < n))) ∧ w = w' :=
  (Tryz.strings_shouldUseASCIISet n w).mono fun _ _ ⟨a, b⟩ => ⟨a, b.symm⟩
def iterOf (w : World) (k : Nat) : Nat := match w.heap[k]? with | some (.stringIter _ p) => p | _ => 0
set_option maxRecDepth 100000 in
set_option maxHeartbeats 4000000 in
theorem iany_short (s : ByteArray) (w : World) (h8 : s.size ≤ 8) :
    Calls Tryz.prog 95 #[.string s, .string ⟨#[47, 0]⟩] w fun e w' => e = .returned (.int .i64 (Lib.indexAny (str s) [47, 0])) ∧ Off [] w w' := by
  have h8z : decide ((8 : Int) < (s.size : Int)) = false := decide_eq_false (by omega)
  go_enter Tryz.func95, Tryz.ntmps95
  go_wp2_with fail
  refine (shouldAscii_any _ _).mono ?_
  rintro e w' ⟨rfl, e1⟩
  subst e1
  rw [h8z]
  go_wp2_with fail
  go_loopw [9] (fun _ wr => ∃ p : Nat, AnyIt w s p wr) (fun _ wr => s.size - iterOf wr w.heap.size)
  case atStart => exact ⟨0, by omega, World.iter_heap w s 0, (Off.refl _ _).alloc _, Lib.NoAny.zero _ _⟩
  case round =>
    obtain ⟨p, hI⟩ := hrel
    have HI := Lib.hid hI
    obtain ⟨hp, hk, ho, hno⟩ := hI
    have hm : iterOf wr w.heap.size = p := by simp [iterOf, hk]
    have HM := Lib.hid hm
    clear hno ho hm
    by_cases he : p = s.size
    · have hnx := fun ty => Lib.run_next_end_at (P := Tryz.prog) wr w.heap.size s p ty hk (by omega)
      have HE := Lib.hid he
      clear he hk
      go_wp2_with fail
      go_ret
      exact ⟨by rw [Lib.indexAny_none (by rw [str_size, ← HE.out]; exact HI.out.2.2.2)]; rfl, HI.out.2.2.1⟩
    · have hlt : p < s.size := by omega
      obtain ⟨x, hx⟩ : ∃ x : UInt8, s[p]'hlt = x := ⟨_, rfl⟩
      have hxl : (str s)[p]? = some x := by rw [← hx]; exact Lib.data_getElem? s p hlt
      have hnew : ∀ q, (wr.iterAt w.heap.size s q).heap[w.heap.size]? = some (.stringIter s q) := fun q => Lib.iterAt_heap wr w.heap.size s p q hk
      have HN := Lib.hid hnew
      clear hnew
      by_cases hx8 : x.toNat < 128
      · have hnx := fun ty => Lib.run_next_ascii_at (P := Tryz.prog) wr w.heap.size s p ty hk hlt (by rw [hx]; exact hx8)
        rw [hx] at hnx
        have HX := Lib.hid hx
        have HL := Lib.hid hxl
        clear hx hxl hk
        go_wp2_with fail
        refine (irune_low _ _ (by omega) (by omega)).mono ?_
        rintro e w2 ⟨rfl, ho2⟩
        by_cases hc : x = 47 ∨ x = 0
        · have hv : ∃ v : Nat, Lib.indexByte [47, 0] ((x.toNat : Int).toNat.toUInt8) = v := by
            rcases hc with rfl | rfl
            · exact ⟨0, rfl⟩
            · exact ⟨1, rfl⟩
          obtain ⟨v, hv⟩ := hv
          rw [hv]
          have hcc : ([47, 0] : List UInt8).contains x = true := by rcases hc with rfl | rfl <;> rfl
          clear hv hc
          have HC := Lib.hid hcc
          clear hcc
          go_wp2_with fail
          go_ret
          exact ⟨by rw [Lib.indexAny_hit HI.out.2.2.2 HL.out HC.out]; rfl, (HI.out.2.2.1.iterAt (Nat.le_refl _) s _).trans_nil ho2⟩
        · have hcc : ([47, 0] : List UInt8).contains x = false := by
            simp only [not_or] at hc
            simp [hc.1, hc.2]
          have hv : Lib.indexByte [47, 0] ((x.toNat : Int).toNat.toUInt8) = -1 := by
            simp only [not_or] at hc
            have h1 : ¬ ((47 : UInt8) = x) := fun e => hc.1 e.symm
            have h2 : ¬ ((0 : UInt8) = x) := fun e => hc.2 e.symm
            simp [Lib.indexByte, h1, h2]
          rw [hv]
          clear hv hc
          have HC := Lib.hid hcc
          clear hcc
          go_wp2_with fail
          have hk2 := (ho2.block w.heap.size (by have := (Array.getElem?_eq_some_iff.1 (HN.out (p + 1))).1; exact this) (by simp)).trans (HN.out (p + 1))
          refine ⟨⟨p + 1, by omega, hk2, (HI.out.2.2.1.iterAt (Nat.le_refl _) s _).trans_nil ho2, HI.out.2.2.2.succ HL.out HC.out⟩, ?_⟩
          rw [HM.out]
          simp [iterOf, hk2]
          omega
      · have hnx := fun ty => Lib.run_next_any_at (P := Tryz.prog) wr w.heap.size s p ty hk hlt
        have hxd : 128 ≤ ((str s).getD p 0).toNat := by simp [List.getD, hxl]; omega
        obtain ⟨q1, q2, q3⟩ := skip_high s p hlt hxd
        have hr1 := (decode_high s p hlt (by rw [hx]; omega)).1
        have hr2 : (Utf8.decode s p).1 ≤ 1114111 := by rw [← Lib.decodeL_drop]; exact Lib.decodeL_rune _
        generalize (Utf8.decode s p).1 = r at *
        generalize (Utf8.decode s p).2 = d at *
        clear hx hxl hk
        have HQ := Lib.hid q3
        clear q3
        go_wp2_with fail
        refine (irune_high _ _ (by omega) (by omega)).mono ?_
        rintro e w2 ⟨rfl, ho2⟩
        go_wp2_with fail
        have hk2 := (ho2.block w.heap.size (by have := (Array.getElem?_eq_some_iff.1 (HN.out (p + d))).1; exact this) (by simp)).trans (HN.out (p + d))
        refine ⟨⟨p + d, by omega, hk2, (HI.out.2.2.1.iterAt (Nat.le_refl _) s _).trans_nil ho2, fun j b hj hb => ?_⟩, ?_⟩
        · by_cases hjp : j < p
          · exact HI.out.2.2.2 j b hjp hb
          · have := HQ.out j b (by omega) hj hb
            have h1 : ¬ b = 47 := fun e => by subst e; simp at this
            have h2 : ¬ b = 0 := fun e => by subst e; simp at this
            simp [h1, h2]
        · rw [HM.out]
          simp [iterOf, hk2]
          omega
end Go.Proofs.YtpaeihdkggbeoaaGreatDoor
