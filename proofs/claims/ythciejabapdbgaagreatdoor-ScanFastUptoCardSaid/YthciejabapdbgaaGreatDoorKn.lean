/- Texts of this claim, one behind the other: Rep HexW Rot Sha ShaM. Conditions: what each lemma states. -/
import Derived.Test.YthciejabapdbgaaGreatDoorKm
import Derived.Lib.Mul64
import Derived.Laws.Bits64b
import Derived.Lib.RepeatB
import Derived.Deep.LoopGhost
import Derived.Deep.DeepCutAuto
import Derived.Deep.DeepFit
import Derived.Deep.CutBlock
import Derived.Test.YthciejabapdbgaaGreatDoorKi
import Derived.Test.YthciejabapdbgaaGreatDoorKb
import Derived.Deep.WholeRow
set_option linter.unusedVariables false
set_option linter.unusedSimpArgs false
namespace Go.Proofs.YthciejabapdbgaaGreatDoor
section
open Go.RowKit Go.Op
theorem m_maskN (a : Nat) (ha : a < 18446744073709551616) : bits .and .u64 (a : Int) 4294967295 = ((a % 4294967296 : Nat) : Int) := by
  have h := bits_and_u64_nat a 4294967295 ha (by omega); rw [show a &&& 4294967295 = a % 4294967296 from Nat.and_two_pow_sub_one_eq_mod a 32] at h; exact h
theorem m_divN (a : Nat) : (a : Int) / 4294967296 = ((a / 4294967296 : Nat) : Int) := by omega
theorem m_mulN (a b : Nat) : (a : Int) * (b : Int) = ((a * b : Nat) : Int) := (Int.natCast_mul a b).symm
theorem m_addN (a b : Nat) : (a : Int) + (b : Int) = ((a + b : Nat) : Int) := (Int.natCast_add a b).symm
theorem m_wrapN (a : Nat) (ha : a < 18446744073709551616) : IntKind.u64.wrap (a : Int) = (a : Int) := by rw [IntKind.wrap_u64]; omega
theorem m_wrapM (a : Nat) : IntKind.u64.wrap (a : Int) = ((a % 18446744073709551616 : Nat) : Int) := by rw [IntKind.wrap_u64]; omega
set_option maxRecDepth 100000 in
set_option maxHeartbeats 1000000 in
theorem mul64_any (x y : Nat) (hx : x < 18446744073709551616) (hy : y < 18446744073709551616) (w : World) :
    Calls Tryz.prog 338 #[.int .u64 x, .int .u64 y] w fun e w' => e = .returned (.tuple #[.int .u64 ((x * y / 18446744073709551616 : Nat) : Int), .int .u64 ((x * y % 18446744073709551616 : Nat) : Int)]) ∧ w' = w := by
  obtain ⟨bd, bt, bw, hhi⟩ := Lib.mul64_hi x y hx hy; have ba := Lib.half_mul_le (a := x / 4294967296) (b := y / 4294967296) (by omega) (by omega); have bb := Lib.half_mul_le (a := x / 4294967296) (b := y % 4294967296) (by omega) (by omega); have bc := Lib.half_mul_le (a := x % 4294967296) (b := y / 4294967296) (by omega) (by omega)
  have ba' : x / 4294967296 * (y / 4294967296) < 18446744073709551616 := by omega
  have bb' : x / 4294967296 * (y % 4294967296) < 18446744073709551616 := by omega
  have bc' : x % 4294967296 * (y / 4294967296) < 18446744073709551616 := by omega
  have bh1 : x / 4294967296 * (y / 4294967296) + (x / 4294967296 * (y % 4294967296) + x % 4294967296 * (y % 4294967296) / 4294967296) / 4294967296 < 18446744073709551616 := by omega
  have bh : x / 4294967296 * (y / 4294967296) + (x / 4294967296 * (y % 4294967296) + x % 4294967296 * (y % 4294967296) / 4294967296) / 4294967296 + ((x / 4294967296 * (y % 4294967296) + x % 4294967296 * (y % 4294967296) / 4294967296) % 4294967296 + x % 4294967296 * (y / 4294967296)) / 4294967296 < 18446744073709551616 := by omega
  go_enter Tryz.func338, Tryz.ntmps338
  go_wp2_with fail
  simp only [m_maskN x hx, m_maskN y hy, m_divN, m_mulN, m_addN, m_wrapN _ bd, m_wrapN _ bb', m_wrapN _ bt, m_maskN _ bt, m_wrapN _ bc', m_wrapN _ bw, m_wrapN _ ba', m_wrapN _ bh1, m_wrapN _ bh, m_wrapM (x * y)]
  rw [hhi]
  go_ret2
  exact ⟨rfl, rfl⟩
set_option maxRecDepth 100000 in
set_option maxHeartbeats 1000000 in
theorem mul_any (x y : Nat) (hx : x < 18446744073709551616) (hy : y < 18446744073709551616) (w : World) :
    Calls Tryz.prog 271 #[.int .u64 x, .int .u64 y] w fun e w' => e = .returned (.tuple #[.int .u64 ((x * y / 18446744073709551616 : Nat) : Int), .int .u64 ((x * y % 18446744073709551616 : Nat) : Int)]) ∧ w' = w := by
  go_enter Tryz.func271, Tryz.ntmps271
  go_wp2_with (go_at_call 338; refine (mul64_any x y hx hy w).mono ?_; rintro e w' ⟨rfl, hw⟩; rw [hw])
  go_ret2
  exact ⟨rfl, rfl⟩
theorem run_min3 {P : Program} {w : World} (ts : Array TypeId) (t : TypeId) (k k' k'' : IntKind) (x y z : Int) :
    (Builtin.min_ ts t #[.int k x, .int k' y, .int k'' z]).run P w = .ok (.int k (if z < (if y < x then y else x) then z else (if y < x then y else x))) w := by
  simp [Builtin.min_, Builtin.min2]
set_option maxHeartbeats 1600000 in
set_option maxRecDepth 1000000 in
theorem repeat_main (s : ByteArray) (c : Nat) (w : World) (hc2 : 2 ≤ c) (hc : c ≤ 9223372036854775807) (hlen : s.size * c ≤ 140737488355328) (h0 : 0 < s.size) :
    Calls Tryz.prog 195 #[.string s, .int .i64 c] w fun e w' => e = .returned (.string ⟨(Lib.repeatL (str s) c).toArray⟩) ∧ Below w.heap.size w w' := by
  have hsz : s.size ≤ 140737488355328 := Nat.le_trans (Nat.le_mul_of_pos_right _ (by omega)) hlen
  have hMul := mul_any s.size c (by omega) (by omega) w; rw [Nat.div_eq_of_lt (by omega : s.size * c < 18446744073709551616), Nat.mod_eq_of_lt (by omega : s.size * c < 18446744073709551616)] at hMul; obtain ⟨n, hn⟩ : ∃ n, s.size * c = n := ⟨_, rfl⟩
  rw [hn] at hMul hlen; have HN : Aside (s.size * c = n) := hn
  clear hn; have hq8 : wrap64 (8192 / (s.size : Int) * (s.size : Int)) = ((8192 / s.size * s.size : Nat) : Int) := by
    have e : (8192 : Int) / (s.size : Int) * (s.size : Int) = ((8192 / s.size * s.size : Nat) : Int) := by
      rw [Int.natCast_mul, Int.natCast_ediv]
      rfl
    have hle : 8192 / s.size * s.size ≤ 8192 := Nat.div_mul_le_self 8192 s.size
    rw [e]; unfold wrap64; omega
  go_enter Tryz.func195, Tryz.ntmps195
  go_upto_block 1 with (go_at_call 271; go_fit hMul; rintro e w' ⟨rfl, hw⟩; rw [hw])
  clear hMul
  go_cut [] (fun wx => w = wx)
  case first =>
    go_upto_if 43 with fail
    go_cut [43] (fun s43 wx => w = wx ∧ ∃ B : Bool, s43 = .bool B)
    case first =>
      go_wp2
      all_goals (go_meet; exact ⟨rfl, _, rfl⟩)
    case rest =>
      obtain ⟨rfl, B, rfl⟩ := hcut
      cases B
      · go_wp2
        go_meet
        rfl
      go_wp2_with (go_at_call 169; refine (Tryz.strings_HasPrefix _ _ _).mono ?_; rintro e w' ⟨rfl, hw⟩; rw [hw])
      all_goals (first
        | (go_meet; rfl)
        | (go_ret; first
            | exact ⟨by rw [Lib.fast_ok _ 32 128 (by rfl) s c n HN.out (by omega) (by assumption)] <;> rfl, Below.refl _ _⟩
            | exact ⟨by rw [Lib.fast_ok _ 45 128 (by rfl) s c n HN.out (by omega) (by assumption)] <;> rfl, Below.refl _ _⟩
            | exact ⟨by rw [Lib.fast_ok _ 48 64 (by rfl) s c n HN.out (by omega) (by assumption)] <;> rfl, Below.refl _ _⟩
            | exact ⟨by rw [Lib.fast_ok _ 61 128 (by rfl) s c n HN.out (by omega) (by assumption)] <;> rfl, Below.refl _ _⟩
            | exact ⟨by rw [Lib.fast_ok _ 9 64 (by rfl) s c n HN.out (by omega) (by assumption)] <;> rfl, Below.refl _ _⟩))
  case rest =>
    obtain rfl := hcut
    go_upto_if 96 with fail
    go_cut [8] (fun s8 wx => w = wx ∧ ∃ m : Nat, 1 ≤ m ∧ s8 = .int .i64 ((m * s.size : Nat) : Int))
    case first =>
      go_wp2
      · go_meet
        exact ⟨rfl, 1, Nat.le_refl _, by rw [Nat.one_mul]⟩
      · go_meet
        refine ⟨rfl, 8192 / s.size, ?_, by rw [hq8]⟩
        rcases Nat.eq_zero_or_pos (8192 / s.size) with hz | hz
        · rename_i hne
          have e0 : (8192 : Int) / (s.size : Int) = ((8192 / s.size : Nat) : Int) := by rw [Int.natCast_ediv]; rfl
          first | rw [hq8, hz] at hne | rw [e0, hz] at hne
          simp at hne
        exact hz
      go_meet
      exact ⟨rfl, c, by omega, by rw [Nat.mul_comm, HN.out]⟩
    case rest =>
      obtain ⟨rfl, m, hm1, rfl⟩ := hcut; clear hq8; obtain ⟨CM, hCM⟩ : ∃ CM, m * s.size = CM := ⟨_, rfl⟩
      rw [hCM]; have HCM : Aside (m * s.size = CM) := hCM
      clear hCM; have b0 : Below w.heap.size w (w.alloc (.cells #[.pointer none, .slice none 0 0] 190)) := (Below.refl _ w).alloc (Nat.le_refl _) _
      have cG := hGrow_any w.heap.size w.heap.size n (w.alloc (.cells #[.pointer none, .slice none 0 0] 190)) (Nat.le_refl _) (heap_alloc_new w _) b0.size (by omega)
      go_wp2_with (go_at_call 272; go_fit cG; rintro e W1 ⟨rfl, h1, b1⟩)
      clear cG; have cW := hwrites_any w.heap.size w.heap.size [] s W1 h1 (by simp; omega) (Nat.le_trans b0.size b1.size)
      go_wp2_with (go_at_call 122; go_fit cW; rintro e W2 ⟨⟨v, rfl⟩, h2, b2⟩)
      clear cW h1; have h2' : HfAt w.heap.size w.heap.size (Lib.repeatL (str s) 1) W2 := by
        rw [List.nil_append] at h2; rw [Lib.repeatL_one]; exact h2
      have b02 : Below w.heap.size w W2 := b0.trans (b1.trans b2)
      clear h2 b0 b1 b2
      go_loopg [] (c - 1) (fun g wx => ∃ q : Nat, 1 ≤ q ∧ q + g = c ∧ HfAt w.heap.size w.heap.size (Lib.repeatL (str s) q) wx ∧ Below w.heap.size w wx)
      case atStart => exact ⟨1, Nat.le_refl _, by omega, h2', b02⟩
      case round =>
        obtain ⟨q, hq1, hqg, hB, hbx⟩ := hrel; obtain ⟨Q, hQ⟩ : ∃ Q, q * s.size = Q := ⟨_, rfl⟩
        have hlq : (Lib.repeatL (str s) q).length = Q := by rw [Lib.repeatL_length, str_size, hQ]
        have cLen := hlen_any w.heap.size w.heap.size _ wr hB; rw [hlq] at cLen; have hnc : c * s.size = n := by rw [Nat.mul_comm]; exact HN.out
        have hne : Lib.repeatL (str s) q ≠ [] := fun e => by
          have h1 := congrArg List.length e; rw [hlq, ← hQ] at h1; have h2 : 0 < q * s.size := Nat.mul_pos (by omega) h0
          simp only [List.length_nil] at h1
          omega
        have cStr := hstrings_any w.heap.size w.heap.size (Lib.repeatL (str s) q) wr hB hne; obtain ⟨S, hS⟩ : ∃ S : ByteArray, bs (Lib.repeatL (str s) q) = S := ⟨_, rfl⟩
        have hSd : str S = Lib.repeatL (str s) q := by rw [← hS]; rfl
        have hSz : S.size = Q := by rw [← str_size, hSd, hlq]
        rw [hS] at cStr
        cases gk with
        | zero =>
          obtain rfl : q = c := by omega
          have hQn : ¬ ((Q : Int) < (n : Int)) := by omega
          go_wp2_with (first
            | (go_at_call 273; go_fit cLen; rintro e w' ⟨rfl, hw⟩; rw [hw])
            | (go_at_call 126; go_fit cStr; rintro e W3 ⟨rfl, h3, b3⟩))
          go_ret
          exact ⟨by rw [← hS] <;> rfl, hbx.trans b3⟩
        | succ g =>
          have hqc : q < c := by omega
          obtain ⟨k, hk1, hkq, hkc, hmin⟩ := Lib.chunk_ok c q m s.size hq1 hqc hm1; rw [hnc, hQ, HCM.out] at hmin; obtain ⟨CH, hCH⟩ : ∃ CH, k * s.size = CH := ⟨_, rfl⟩
          rw [hCH] at hmin; have hQn : (Q : Int) < (n : Int) := by
            have h1 : (q + 1) * s.size ≤ c * s.size := Nat.mul_le_mul_right _ hqc
            rw [Nat.succ_mul, hQ, hnc] at h1; omega
          have hCHQ : CH ≤ Q := by rw [← hCH, ← hQ]; exact Nat.mul_le_mul_right _ hkq
          have hsum : Q + CH ≤ n := by
            have h1 : (q + k) * s.size ≤ c * s.size := Nat.mul_le_mul_right _ hkc
            rw [Nat.add_mul, hQ, hCH, hnc] at h1; exact h1
          have hmin3 : ∀ (ts : Array TypeId) (t : TypeId) (W : World), (Builtin.min_ ts t #[.int .i64 ((n : Int) - (Q : Int)), .int .i64 (Q : Int), .int .i64 (CM : Int)]).run Tryz.prog W = .ok (.int .i64 (CH : Int)) W := fun ts t W => by
            rw [run_min3]
            congr 2
            rw [← hmin]; omega
          clear hmin
          go_wp2_with (first
            | (go_at_call 273; go_fit cLen; rintro e w' ⟨rfl, hw⟩; rw [hw])
            | (go_at_call 126; go_fit cStr; rintro e W3 ⟨rfl, h3, b3⟩))
          have hxd : str (S.extract 0 CH) = (Lib.repeatL (str s) q).take CH := by
            show (S.extract 0 CH).data.toList = _
            rw [Lib.extract_data, show S.data.toList = _ from hSd]; simp only [List.drop_zero, Nat.sub_zero]
          have hxs : (S.extract 0 CH).size = CH := by rw [ByteArray.size_extract]; omega
          have cWr := hwrites_any w.heap.size w.heap.size _ (S.extract 0 CH) W3 h3 (by rw [hlq, hxs]; omega) (Nat.le_trans hbx.size b3.size)
          go_wp2_with (go_at_call 122; go_fit cWr; rintro e W4 ⟨⟨v4, rfl⟩, h4, b4⟩)
          go_roundg (c - (q + k))
          case measure => omega
          case rel =>
            refine ⟨q + k, by omega, by omega, ?_, hbx.trans (b3.trans b4)⟩
            rw [hxd, ← hCH, ← str_size, Lib.step_ok _ _ _ hkq] at h4; exact h4
set_option maxRecDepth 1000000 in
theorem repeat_zero (s : ByteArray) (w : World) :
    Calls Tryz.prog 195 #[.string s, .int .i64 0] w fun e w' => e = .returned (.string ⟨#[]⟩) ∧ w' = w := by
  go_enter Tryz.func195, Tryz.ntmps195
  go_wp2_with fail
  go_ret
  exact ⟨rfl, rfl⟩
set_option maxRecDepth 1000000 in
theorem repeat_one (s : ByteArray) (w : World) :
    Calls Tryz.prog 195 #[.string s, .int .i64 1] w fun e w' => e = .returned (.string s) ∧ w' = w := by
  go_enter Tryz.func195, Tryz.ntmps195
  go_wp2_with fail
  go_ret
  exact ⟨rfl, rfl⟩
theorem repeat_any (s : ByteArray) (c : Nat) (w : World) (hc : c ≤ 9223372036854775807) (hlen : s.size * c ≤ 140737488355328) (h0 : 0 < s.size) :
    Calls Tryz.prog 195 #[.string s, .int .i64 c] w fun e w' => e = .returned (.string (bs (Lib.repeatL (str s) c))) ∧ Below w.heap.size w w' := by
  match c, hc, hlen with
  | 0, _, _ => exact (repeat_zero s w).mono fun e w' ⟨he, hw⟩ => ⟨he, hw ▸ Below.refl _ _⟩
  | 1, _, _ => exact (repeat_one s w).mono fun e w' ⟨he, hw⟩ => ⟨by rw [he, Lib.repeatL_one]; rfl, hw ▸ Below.refl _ _⟩
  | c + 2, hc, hlen => exact repeat_main s (c + 2) w (by omega) hc hlen h0
theorem repeat_zeros (c : Nat) (w : World) (hc : c ≤ 63) : Calls Tryz.prog 195 #[.string ⟨#[0]⟩, .int .i64 c] w fun e w' => e = .returned (.string ⟨Array.replicate c 0⟩) ∧ Off [] w w' := by
  refine (repeat_any ⟨#[0]⟩ c w (by omega) (by show 1 * c ≤ _; omega) (by decide)).mono ?_
  rintro e w' ⟨rfl, h⟩; refine ⟨?_, Off.of_below (l := []) h⟩; have : Lib.repeatL (str ⟨#[0]⟩) c = List.replicate c 0 := by
    rw [show str ⟨#[0]⟩ = List.replicate 1 (0 : UInt8) from rfl, Lib.repeatL_replicate, Nat.mul_one]
  rw [this]
  show Ending.returned (.string ⟨(List.replicate c 0).toArray⟩) = _
  rw [List.toArray_replicate]
end
section
open Go.RowKit Go.Op
def digB (n : Nat) : UInt8 := UInt8.ofNat (if n < 10 then 48 + n else 87 + n)
def hexV (l : Str) : Str := l.flatMap fun c => [digB (c.toNat / 16), digB (c.toNat % 16)]
theorem hexV_take {l : Str} {i : Nat} {c : UInt8} (h : l[i]? = some c) : hexV (l.take (i + 1)) = (hexV (l.take i) ++ [digB (c.toNat / 16)]) ++ [digB (c.toNat % 16)] := by
  unfold hexV; rw [take_get h, List.flatMap_append]; simp
theorem hexV_len (l : Str) : (hexV l).length = 2 * l.length := by
  unfold hexV
  induction l with
  | nil => rfl
  | cons c l ih => rw [List.flatMap_cons, List.length_append, ih]; simp; omega
theorem dig_at : ∀ (k : Nat) (h : k < 16), (⟨#[48, 49, 50, 51, 52, 53, 54, 55, 56, 57, 97, 98, 99, 100, 101, 102]⟩ : ByteArray)[k]'h = digB k
  | 0, _ => rfl
  | 1, _ => rfl
  | 2, _ => rfl
  | 3, _ => rfl
  | 4, _ => rfl
  | 5, _ => rfl
  | 6, _ => rfl
  | 7, _ => rfl
  | 8, _ => rfl
  | 9, _ => rfl
  | 10, _ => rfl
  | 11, _ => rfl
  | 12, _ => rfl
  | 13, _ => rfl
  | 14, _ => rfl
  | 15, _ => rfl
  | k + 16, h => absurd h (by omega)
theorem and15 : ∀ x : Fin 256, bits BinOp.and IntKind.u8 ((x.val : Nat) : Int) 15 = ((x.val % 16 : Nat) : Int) := by decide +kernel
theorem and_15 (c : UInt8) : bits BinOp.and IntKind.u8 (c.toNat : Int) 15 = ((c.toNat % 16 : Nat) : Int) := and15 ⟨c.toNat, c.toNat_lt⟩
set_option maxRecDepth 100000 in
set_option maxHeartbeats 4000000 in
theorem hex_any (s : ByteArray) (w : World) (hs0 : s.size ≠ 0) (hs : s.size ≤ 1000000) :
    Calls Tryz.prog 120 #[.string s] w fun e w' => e = .returned (.string (bs (hexV (str s)))) ∧ Off [] w w' := by
  go_enter Tryz.func120, Tryz.ntmps120
  go_upto_region 3 with fail
  go_loopw [7, 4] (fun x _ wr => ∃ i : Nat, x = .int .i64 i ∧ i ≤ s.size ∧ Hid (HbAt w.heap.size w.heap.size (hexV ((str s).take i)) wr ∧ Below w.heap.size w wr)) (fun x _ _ => s.size - (intOf x).toNat)
  case atStart => exact ⟨0, rfl, Nat.zero_le _, Lib.hid ⟨HbAt.new w, (Below.refl _ _).alloc (Nat.le_refl _) _⟩⟩
  case round =>
    obtain ⟨i, rfl, hi, HR⟩ := hrel
    by_cases hlt : i < s.size
    · obtain ⟨c, hc⟩ : ∃ c, s[i]'hlt = c := ⟨_, rfl⟩
      have hlI : (i : Int) < (s.size : Int) := by omega
      have hsc : (str s)[i]? = some c := by
        rw [List.getElem?_eq_getElem (by rw [str_size]; exact hlt), ← hc]
        rfl
      have hTK := hexV_take hsc; have hln : (hexV ((str s).take i)).length ≤ 2000000 := by
        rw [hexV_len, List.length_take, str_size]; omega
      obtain ⟨L, hL⟩ : ∃ L, hexV ((str s).take i) = L := ⟨_, rfl⟩
      rw [hL] at hTK hln HR; have HTK := Lib.hid (And.intro hTK hln); have hk1 : c.toNat / 16 < 16 := by have := c.toNat_lt; omega
      have hk2 : c.toNat % 16 < 16 := by omega
      have q1 : ((c.toNat : Int) / 16) < 16 := by omega
      have q2 : ((c.toNat : Int) / 16).toNat = c.toNat / 16 := by omega
      have q3 := and_15 c; have q4 : ((c.toNat : Int) % 16) < 16 := by omega
      clear hTK hln hL hsc
      go_wp2_with fail
      rw [dig_at _ hk1]; refine (hwrite_any w.heap.size w.heap.size L (digB (c.toNat / 16)) wr HR.out.1 (by have := HTK.out.2; omega) HR.out.2.size).mono ?_; rintro e w1 ⟨⟨v, rfl⟩, h1, h2⟩; have H1 := Lib.hid (And.intro h1 (HR.out.2.trans h2)); clear h1 h2
      go_wp2_with fail
      rw [dig_at _ hk2]; refine (hwrite_any w.heap.size w.heap.size (L ++ [digB (c.toNat / 16)]) (digB (c.toNat % 16)) w1 H1.out.1 (by have := HTK.out.2; simp; omega) H1.out.2.size).mono ?_; rintro e w2 ⟨⟨v2, rfl⟩, h1, h2⟩; have H2 := Lib.hid (And.intro h1 (H1.out.2.trans h2)); clear h1 h2
      go_wp2_with fail
      exact ⟨⟨i + 1, by congr 1, by omega, Lib.hid ⟨by rw [HTK.out.1]; exact H2.out.1, H2.out.2⟩⟩, by simp only [intOf]; omega⟩
    have hin : i = s.size := by omega
    have hall : (str s).take i = str s := List.take_of_length_le (by rw [str_size]; omega)
    rw [hall] at HR; have HR2 := Lib.hid HR.out; clear HR hall hin
    go_wp2_with fail
    refine (hstring_any w.heap.size w.heap.size (hexV (str s)) wr HR2.out.1 (fun e => by
      have := congrArg List.length e; rw [hexV_len, str_size] at this; simp only [List.length_nil] at this; omega)).mono ?_
    rintro e w1 ⟨rfl, h1⟩; have HO := Lib.hid (Off.of_below (l := []) (HR2.out.2.trans h1)); clear h1
    go_wp2_with fail
    go_ret
    exact ⟨rfl, HO.out⟩
end
section
open Go.RowKit Go.Op
def rot2 (x : Int) : Int := bits BinOp.or IntKind.u32 (x * 1073741824 % 4294967296) (x / 4)
theorem rot2_any (x : Int) (w : World) : Calls Tryz.prog 270 #[.int .u32 x, .int .i64 (-2)] w fun e w' => e = .returned (.int .u32 (rot2 x)) ∧ w' = w := by
  have hk : bits BinOp.and IntKind.u64 (IntKind.u64.wrap (-2)) 31 = 30 := by decide
  go_enter Tryz.func270, Tryz.ntmps270
  go_wp2_with fail
  go_ret
  exact ⟨rfl, rfl⟩
def rot6 (x : Int) : Int := bits BinOp.or IntKind.u32 (x * 67108864 % 4294967296) (x / 64)
theorem rot6_any (x : Int) (w : World) : Calls Tryz.prog 270 #[.int .u32 x, .int .i64 (-6)] w fun e w' => e = .returned (.int .u32 (rot6 x)) ∧ w' = w := by
  have hk : bits BinOp.and IntKind.u64 (IntKind.u64.wrap (-6)) 31 = 26 := by decide
  go_enter Tryz.func270, Tryz.ntmps270
  go_wp2_with fail
  go_ret
  exact ⟨rfl, rfl⟩
def rot7 (x : Int) : Int := bits BinOp.or IntKind.u32 (x * 33554432 % 4294967296) (x / 128)
theorem rot7_any (x : Int) (w : World) : Calls Tryz.prog 270 #[.int .u32 x, .int .i64 (-7)] w fun e w' => e = .returned (.int .u32 (rot7 x)) ∧ w' = w := by
  have hk : bits BinOp.and IntKind.u64 (IntKind.u64.wrap (-7)) 31 = 25 := by decide
  go_enter Tryz.func270, Tryz.ntmps270
  go_wp2_with fail
  go_ret
  exact ⟨rfl, rfl⟩
def rot11 (x : Int) : Int := bits BinOp.or IntKind.u32 (x * 2097152 % 4294967296) (x / 2048)
theorem rot11_any (x : Int) (w : World) : Calls Tryz.prog 270 #[.int .u32 x, .int .i64 (-11)] w fun e w' => e = .returned (.int .u32 (rot11 x)) ∧ w' = w := by
  have hk : bits BinOp.and IntKind.u64 (IntKind.u64.wrap (-11)) 31 = 21 := by decide
  go_enter Tryz.func270, Tryz.ntmps270
  go_wp2_with fail
  go_ret
  exact ⟨rfl, rfl⟩
def rot13 (x : Int) : Int := bits BinOp.or IntKind.u32 (x * 524288 % 4294967296) (x / 8192)
theorem rot13_any (x : Int) (w : World) : Calls Tryz.prog 270 #[.int .u32 x, .int .i64 (-13)] w fun e w' => e = .returned (.int .u32 (rot13 x)) ∧ w' = w := by
  have hk : bits BinOp.and IntKind.u64 (IntKind.u64.wrap (-13)) 31 = 19 := by decide
  go_enter Tryz.func270, Tryz.ntmps270
  go_wp2_with fail
  go_ret
  exact ⟨rfl, rfl⟩
def rot17 (x : Int) : Int := bits BinOp.or IntKind.u32 (x * 32768 % 4294967296) (x / 131072)
theorem rot17_any (x : Int) (w : World) : Calls Tryz.prog 270 #[.int .u32 x, .int .i64 (-17)] w fun e w' => e = .returned (.int .u32 (rot17 x)) ∧ w' = w := by
  have hk : bits BinOp.and IntKind.u64 (IntKind.u64.wrap (-17)) 31 = 15 := by decide
  go_enter Tryz.func270, Tryz.ntmps270
  go_wp2_with fail
  go_ret
  exact ⟨rfl, rfl⟩
def rot18 (x : Int) : Int := bits BinOp.or IntKind.u32 (x * 16384 % 4294967296) (x / 262144)
theorem rot18_any (x : Int) (w : World) : Calls Tryz.prog 270 #[.int .u32 x, .int .i64 (-18)] w fun e w' => e = .returned (.int .u32 (rot18 x)) ∧ w' = w := by
  have hk : bits BinOp.and IntKind.u64 (IntKind.u64.wrap (-18)) 31 = 14 := by decide
  go_enter Tryz.func270, Tryz.ntmps270
  go_wp2_with fail
  go_ret
  exact ⟨rfl, rfl⟩
def rot19 (x : Int) : Int := bits BinOp.or IntKind.u32 (x * 8192 % 4294967296) (x / 524288)
theorem rot19_any (x : Int) (w : World) : Calls Tryz.prog 270 #[.int .u32 x, .int .i64 (-19)] w fun e w' => e = .returned (.int .u32 (rot19 x)) ∧ w' = w := by
  have hk : bits BinOp.and IntKind.u64 (IntKind.u64.wrap (-19)) 31 = 13 := by decide
  go_enter Tryz.func270, Tryz.ntmps270
  go_wp2_with fail
  go_ret
  exact ⟨rfl, rfl⟩
def rot22 (x : Int) : Int := bits BinOp.or IntKind.u32 (x * 1024 % 4294967296) (x / 4194304)
theorem rot22_any (x : Int) (w : World) : Calls Tryz.prog 270 #[.int .u32 x, .int .i64 (-22)] w fun e w' => e = .returned (.int .u32 (rot22 x)) ∧ w' = w := by
  have hk : bits BinOp.and IntKind.u64 (IntKind.u64.wrap (-22)) 31 = 10 := by decide
  go_enter Tryz.func270, Tryz.ntmps270
  go_wp2_with fail
  go_ret
  exact ⟨rfl, rfl⟩
def rot25 (x : Int) : Int := bits BinOp.or IntKind.u32 (x * 128 % 4294967296) (x / 33554432)
theorem rot25_any (x : Int) (w : World) : Calls Tryz.prog 270 #[.int .u32 x, .int .i64 (-25)] w fun e w' => e = .returned (.int .u32 (rot25 x)) ∧ w' = w := by
  have hk : bits BinOp.and IntKind.u64 (IntKind.u64.wrap (-25)) 31 = 7 := by decide
  go_enter Tryz.func270, Tryz.ntmps270
  go_wp2_with fail
  go_ret
  exact ⟨rfl, rfl⟩
end
section
open Go.RowKit Go.Op
def wCells (l : List Int) : Array Value := (l.map (Value.int .u32)).toArray
theorem wCells_get (l : List Int) (i : Nat) : (wCells l)[i]? = (l[i]?).map (Value.int .u32) := by
  unfold wCells; rw [List.getElem?_toArray, List.getElem?_map]
theorem wCells_at {l : List Int} {i : Nat} {x : Int} (h : l[i]? = some x) : (wCells l)[i]? = some (.int .u32 x) := by rw [wCells_get, h]; rfl
theorem wCells_set (l : List Int) (i : Nat) (x : Int) : (wCells l).setIfInBounds i (.int .u32 x) = wCells (l.set i x) := by
  unfold wCells; rw [List.setIfInBounds_toArray, List.map_set]
def byA (b : ByteArray) (j : Nat) : Int := (((str b)[j]?).map fun x : UInt8 => (x.toNat : Int)).getD 0
def ldW (b : ByteArray) (i : Nat) : Int := bits BinOp.or IntKind.u32 (bits BinOp.or IntKind.u32 (bits BinOp.or IntKind.u32 (byA b (4 * i) * 16777216 % 4294967296) (byA b (4 * i + 1) * 65536 % 4294967296)) (byA b (4 * i + 2) * 256 % 4294967296)) (byA b (4 * i + 3))
theorem byA_range (b : ByteArray) (j : Nat) : 0 ≤ byA b j ∧ byA b j ≤ 255 := by
  unfold byA
  cases (str b)[j]? with
  | none => simp
  | some x => have := x.toNat_lt; simp; omega
theorem byA_wrap (b : ByteArray) (j : Nat) : IntKind.u32.wrap (byA b j) = byA b j := IntWalk.u32_in _ (by have := byA_range b j; omega)
def fill1 (b : ByteArray) : Nat → List Int
  | 0 => List.replicate 64 0
  | i + 1 => (fill1 b i).set i (ldW b i)
theorem fill1_len (b : ByteArray) : ∀ i, (fill1 b i).length = 64
  | 0 => by simp [fill1]
  | i + 1 => by unfold fill1; rw [List.length_set]; exact fill1_len b i
def sg0 (x : Int) : Int := bits BinOp.xor IntKind.u32 (bits BinOp.xor IntKind.u32 (rot7 x) (rot18 x)) (x / 8)
def sg1 (x : Int) : Int := bits BinOp.xor IntKind.u32 (bits BinOp.xor IntKind.u32 (rot17 x) (rot19 x)) (x / 1024)
def nextW (m : List Int) (j : Nat) : Int := (m.getD j 0 + sg0 (m.getD (j + 1) 0) + m.getD (j + 9) 0 + sg1 (m.getD (j + 14) 0)) % 4294967296
def fill2 (l : List Int) : Nat → List Int
  | 0 => l
  | j + 1 => (fill2 l j).set (j + 16) (nextW (fill2 l j) j)
theorem fill2_len (l : List Int) : ∀ j, (fill2 l j).length = l.length
  | 0 => rfl
  | j + 1 => by unfold fill2; rw [List.length_set]; exact fill2_len l j
structure St8 where
  a : Int
  b : Int
  c : Int
  d : Int
  e : Int
  f : Int
  g : Int
  h : Int
def St8.list (s : St8) : List Int := [s.a, s.b, s.c, s.d, s.e, s.f, s.g, s.h]
def kC : List Int := [1116352408, 1899447441, 3049323471, 3921009573, 961987163, 1508970993, 2453635748, 2870763221, 3624381080, 310598401, 607225278, 1426881987, 1925078388, 2162078206, 2614888103, 3248222580, 3835390401, 4022224774, 264347078, 604807628, 770255983, 1249150122, 1555081692, 1996064986, 2554220882, 2821834349, 2952996808, 3210313671, 3336571891, 3584528711, 113926993, 338241895, 666307205, 773529912, 1294757372, 1396182291, 1695183700, 1986661051, 2177026350, 2456956037, 2730485921, 2820302411, 3259730800, 3345764771, 3516065817, 3600352804, 4094571909, 275423344, 430227734, 506948616, 659060556, 883997877, 958139571, 1322822218, 1537002063, 1747873779, 1955562222, 2024104815, 2227730452, 2361852424, 2428436474, 2756734187, 3204031479, 3329325298]
theorem kC_len : kC.length = 64 := by decide
def stepT (s : St8) (k w : Int) : Int := IntKind.u32.wrap (IntKind.u32.wrap (IntKind.u32.wrap (IntKind.u32.wrap (s.h + bits BinOp.xor IntKind.u32 (bits BinOp.xor IntKind.u32 (rot6 s.e) (rot11 s.e)) (rot25 s.e)) + bits BinOp.xor IntKind.u32 (bits BinOp.and IntKind.u32 s.e s.f) (bits BinOp.and IntKind.u32 (bits BinOp.xor IntKind.u32 IntKind.u32.max s.e) s.g)) + k) + w)
def stepS (s : St8) : Int := IntKind.u32.wrap (bits BinOp.xor IntKind.u32 (bits BinOp.xor IntKind.u32 (rot2 s.a) (rot13 s.a)) (rot22 s.a) + bits BinOp.xor IntKind.u32 (bits BinOp.xor IntKind.u32 (bits BinOp.and IntKind.u32 s.a s.b) (bits BinOp.and IntKind.u32 s.a s.c)) (bits BinOp.and IntKind.u32 s.b s.c))
def stepR (s : St8) (k w : Int) : St8 := ⟨(stepT s k w + stepS s) % 4294967296, s.a, s.b, s.c, (s.d + stepT s k w) % 4294967296, s.e, s.f, s.g⟩
def itR (s : St8) (m : List Int) : Nat → St8
  | 0 => s
  | i + 1 => stepR (itR s m i) (kC.getD i 0) (m.getD i 0)
def addI (v h : List Int) : Nat → List Int
  | 0 => v
  | i + 1 => (addI v h i).set i (((addI v h i).getD i 0 + h.getD i 0) % 4294967296)
theorem addI_len (v h : List Int) : ∀ i, (addI v h i).length = v.length
  | 0 => rfl
  | i + 1 => by unfold addI; rw [List.length_set]; exact addI_len v h i
def roundV (h : St8) (b : ByteArray) : List Int := addI (itR h (fill2 (fill1 b 16) 48) 64).list h.list 8
end
section
open Go.RowKit Go.Op
theorem byA_at {s : ByteArray} {j : Nat} (h : j < s.size) : byA s j = ((s[j]'h).toNat : Int) := by
  unfold byA; have hl : j < (str s).length := by rw [str_size]; exact h
  rw [List.getElem?_eq_getElem hl]
  rfl
theorem alloc4 (w : World) (c0 c1 c2 c3 : Array Value) (t0 t1 t2 t3 : TypeId) :
    Blk ((((w.alloc (.cells c0 t0)).alloc (.cells c1 t1)).alloc (.cells c2 t2)).alloc (.cells c3 t3)) w.heap.size t0 c0 ∧ Blk ((((w.alloc (.cells c0 t0)).alloc (.cells c1 t1)).alloc (.cells c2 t2)).alloc (.cells c3 t3)) (w.heap.size + 1) t1 c1 ∧
    Blk ((((w.alloc (.cells c0 t0)).alloc (.cells c1 t1)).alloc (.cells c2 t2)).alloc (.cells c3 t3)) (w.heap.size + 1 + 1) t2 c2 ∧ Blk ((((w.alloc (.cells c0 t0)).alloc (.cells c1 t1)).alloc (.cells c2 t2)).alloc (.cells c3 t3)) (w.heap.size + 1 + 1 + 1) t3 c3 ∧
    Off [] w ((((w.alloc (.cells c0 t0)).alloc (.cells c1 t1)).alloc (.cells c2 t2)).alloc (.cells c3 t3)) := by
  have h1 := (Blk.new w t0 c0); have h2 := Blk.new (w.alloc (.cells c0 t0)) t1 c1; have h3 := Blk.new ((w.alloc (.cells c0 t0)).alloc (.cells c1 t1)) t2 c2; have h4 := Blk.new (((w.alloc (.cells c0 t0)).alloc (.cells c1 t1)).alloc (.cells c2 t2)) t3 c3; simp only [World.size_alloc] at h2 h3 h4
  exact ⟨((h1.alloc _).alloc _).alloc _, (h2.alloc _).alloc _, h3.alloc _, h4, ((((Off.refl _ _).alloc _).alloc _).alloc _).alloc _⟩
def RM (w W : World) (p0 p1 p2 p3 : Nat) (s m : List Int) : Prop := Blk W p0 256 (wCells s) ∧ Blk W p1 256 (wCells (List.replicate 8 0)) ∧ Blk W p2 315 (wCells kC) ∧ Blk W p3 315 (wCells m) ∧ Off [] w W
def RP (w : World) (p0 p1 p2 p3 : Nat) : Prop := w.heap.size = p0 ∧ p0 + 1 = p1 ∧ p1 + 1 = p2 ∧ p2 + 1 = p3
section
variable {w W W' : World} {p0 p1 p2 p3 : Nat} {s m : List Int}
theorem RM.off (h : RM w W p0 p1 p2 p3 s m) (ho : Off [] W W') : RM w W' p0 p1 p2 p3 s m :=
  ⟨h.1.off ho (by simp), h.2.1.off ho (by simp), h.2.2.1.off ho (by simp), h.2.2.2.1.off ho (by simp), h.2.2.2.2.trans_nil ho⟩
theorem RM.set (h : RM w W p0 p1 p2 p3 s m) (hp : RP w p0 p1 p2 p3) (i : Nat) (x : Int) : RM w (W.setCell ⟨p3, i, none⟩ (.int .u32 x)) p0 p1 p2 p3 s (m.set i x) := by
  obtain ⟨e0, e1, e2, e3⟩ := hp; have ho : Off [p3] W (W.setCell ⟨p3, i, none⟩ (.int .u32 x)) := (Off.refl _ _).setCell (.inr (by simp)) _
  refine ⟨h.1.off ho (by simp; omega), h.2.1.off ho (by simp; omega), h.2.2.1.off ho (by simp; omega), ?_, h.2.2.2.2.setCell (.inl (by show w.heap.size ≤ p3; omega)) _⟩
  rw [← wCells_set]; exact h.2.2.2.1.set_ i _
theorem RM.own (h : RM w W p0 p1 p2 p3 s m) (hp : RP w p0 p1 p2 p3) {p4 : Nat} (h3 : p3 < p4) (ho : Off [p4] W W') : RM w W' p0 p1 p2 p3 s m := by
  obtain ⟨e0, e1, e2, e3⟩ := hp; exact ⟨h.1.off ho (by simp; omega), h.2.1.off ho (by simp; omega), h.2.2.1.off ho (by simp; omega), h.2.2.2.1.off ho (by simp; omega), h.2.2.2.2.trans ho (fun x hx hm => by rw [List.mem_singleton] at hm; omega)⟩
theorem RM.word (h : RM w W p0 p1 p2 p3 s m) {i : Nat} (hi : i < m.length) : W.cell? ⟨p3, i, none⟩ = some (.int .u32 (m.getD i 0)) := by
  rw [h.2.2.2.1.cell, wCells_get, List.getElem?_eq_getElem hi, List.getD_eq_getElem?_getD, List.getElem?_eq_getElem hi]
  rfl
end
def put8 (W : World) (g : Nat) (a b c d e f x y : Value) : World := ((((((((W.setCell ⟨g, 0, none⟩ a).setCell ⟨g, 1, none⟩ b).setCell ⟨g, 2, none⟩ c).setCell ⟨g, 3, none⟩ d).setCell ⟨g, 4, none⟩ e).setCell ⟨g, 5, none⟩ f).setCell ⟨g, 6, none⟩ x).setCell ⟨g, 7, none⟩ y)
theorem put8_off (W : World) (g : Nat) (a b c d e f x y : Value) : Off [g] W (put8 W g a b c d e f x y) :=
  ((((((((Off.refl _ _).setCell (.inr (by simp)) _).setCell (.inr (by simp)) _).setCell (.inr (by simp)) _).setCell (.inr (by simp)) _).setCell (.inr (by simp)) _).setCell (.inr (by simp)) _).setCell (.inr (by simp)) _).setCell (.inr (by simp)) _
theorem put8_blk {W : World} {g : Nat} {t : TypeId} {l : List Int} (h : Blk W g t (wCells l)) (hl : l.length = 8) (a b c d e f x y : Int) :
    Blk (put8 W g (.int .u32 a) (.int .u32 b) (.int .u32 c) (.int .u32 d) (.int .u32 e) (.int .u32 f) (.int .u32 x) (.int .u32 y)) g t (wCells [a, b, c, d, e, f, x, y]) := by
  have h8 := (((((((h.set_ 0 (.int .u32 a)).set_ 1 (.int .u32 b)).set_ 2 (.int .u32 c)).set_ 3 (.int .u32 d)).set_ 4 (.int .u32 e)).set_ 5 (.int .u32 f)).set_ 6 (.int .u32 x)).set_ 7 (.int .u32 y); simp only [wCells_set] at h8; have e8 : (((((((l.set 0 a).set 1 b).set 2 c).set 3 d).set 4 e).set 5 f).set 6 x).set 7 y = [a, b, c, d, e, f, x, y] := by
    match l, hl with
    | [_, _, _, _, _, _, _, _], _ => rfl
  rw [e8] at h8; exact h8
theorem list8 : ∀ {L : List Int}, L.length = 8 → L = [L.getD 0 0, L.getD 1 0, L.getD 2 0, L.getD 3 0, L.getD 4 0, L.getD 5 0, L.getD 6 0, L.getD 7 0]
  | [_, _, _, _, _, _, _, _], _ => rfl
theorem kC_at {W : World} {p r : Nat} {t : TypeId} {l : List Int} (h : Blk W p t (wCells l)) (hr : r < l.length) : W.cell? ⟨p, r, none⟩ = some (.int .u32 (l.getD r 0)) := by
  rw [h.cell, wCells_get, List.getElem?_eq_getElem hr, List.getD_eq_getElem?_getD, List.getElem?_eq_getElem hr]
  rfl
def stOf (l : List Int) : St8 := ⟨l.getD 0 0, l.getD 1 0, l.getD 2 0, l.getD 3 0, l.getD 4 0, l.getD 5 0, l.getD 6 0, l.getD 7 0⟩
def ini8 : List Int := [1779033703, 3144134277, 1013904242, 2773480762, 1359893119, 2600822924, 528734635, 1541459225]
def hsV (s : ByteArray) (h : List Int) : Nat → List Int
  | 0 => h
  | k + 1 => roundV (stOf (hsV s h k)) (s.extract (64 * k) (64 * k + 64))
theorem roundV_len (h : St8) (b : ByteArray) : (roundV h b).length = 8 := by unfold roundV; rw [addI_len]; rfl
theorem hsV_len (s : ByteArray) (h : List Int) (hl : h.length = 8) : ∀ k, (hsV s h k).length = 8
  | 0 => hl
  | k + 1 => roundV_len _ _
def uCells (l : List Int) : Array Value := (l.map (Value.int .u8)).toArray
theorem uCells_get (l : List Int) (i : Nat) : (uCells l)[i]? = (l[i]?).map (Value.int .u8) := by
  unfold uCells; rw [List.getElem?_toArray, List.getElem?_map]
theorem uCells_set (l : List Int) (i : Nat) (x : Int) : (uCells l).setIfInBounds i (.int .u8 x) = uCells (l.set i x) := by
  unfold uCells; rw [List.setIfInBounds_toArray, List.map_set]
def szV (n : Nat) : Nat → List Int
  | 0 => List.replicate 8 0
  | i + 1 => (szV n i).set i (((n : Int) * 8 / 2 ^ (56 - 8 * i)) % 256)
theorem szV_len (n : Nat) : ∀ i, (szV n i).length = 8
  | 0 => by simp [szV]
  | i + 1 => by unfold szV; rw [List.length_set]; exact szV_len n i
theorem szV_in (n : Nat) : ∀ i, ∀ x ∈ szV n i, 0 ≤ x ∧ x < 256
  | 0, x, hx => by
    have := List.eq_of_mem_replicate hx; subst this; decide
  | i + 1, x, hx => by
    rcases List.mem_or_eq_of_mem_set hx with hx | rfl
    · exact szV_in n i x hx
    exact ⟨Int.emod_nonneg _ (by decide), Int.emod_lt_of_pos _ (by decide)⟩
def bytesI (l : List Int) : Str := l.map fun x => UInt8.ofNat x.toNat
theorem bytesI_at {l : List Int} (h : ∀ x ∈ l, 0 ≤ x ∧ x < 256) {W : World} {g : Nat} {t : TypeId} (hB : Blk W g t (uCells l)) : ∀ j (hj : j < (bytesI l).length), W.cell? ((⟨g, 0, none⟩ : Addr).add j) = some (.int .u8 (((bytesI l)[j]'hj).toNat : Int)) := fun j hj => by
  have hj' : j < l.length := by unfold bytesI at hj; simpa using hj
  rw [addr_add, hB.cell, uCells_get, List.getElem?_eq_getElem hj']; have h1 := h _ (List.getElem_mem hj'); have e2 : (bytesI l)[j]'hj = UInt8.ofNat (l[j].toNat) := List.getElem_map ..
  rw [e2]; have e : ((UInt8.ofNat (l[j].toNat)).toNat : Int) = l[j] := by
    rw [UInt8.toNat_ofNat', Nat.mod_eq_of_lt (by omega)]; omega
  rw [e]; rfl
def strLenS : Value → Nat | .string b => b.size | _ => 0
theorem cells8 {W : World} {g : Nat} {t : TypeId} {L : List Int} (h : Blk W g t (wCells L)) (hl : L.length = 8) :
    W.cell? ⟨g, 0, none⟩ = some (.int .u32 (stOf L).a) ∧ W.cell? ⟨g, 1, none⟩ = some (.int .u32 (stOf L).b) ∧ W.cell? ⟨g, 2, none⟩ = some (.int .u32 (stOf L).c) ∧ W.cell? ⟨g, 3, none⟩ = some (.int .u32 (stOf L).d)
      ∧ W.cell? ⟨g, 4, none⟩ = some (.int .u32 (stOf L).e) ∧ W.cell? ⟨g, 5, none⟩ = some (.int .u32 (stOf L).f) ∧ W.cell? ⟨g, 6, none⟩ = some (.int .u32 (stOf L).g) ∧ W.cell? ⟨g, 7, none⟩ = some (.int .u32 (stOf L).h) :=
  ⟨kC_at h (by omega), kC_at h (by omega), kC_at h (by omega), kC_at h (by omega), kC_at h (by omega), kC_at h (by omega), kC_at h (by omega), kC_at h (by omega)⟩
def outB (L : List Int) : Nat → List Int
  | 0 => List.replicate 32 0
  | k + 1 => (outB L k).set k ((L.getD (k / 4) 0 / 2 ^ (24 - 8 * (k % 4))) % 256)
theorem outB_len (L : List Int) : ∀ k, (outB L k).length = 32
  | 0 => by simp [outB]
  | k + 1 => by unfold outB; rw [List.length_set]; exact outB_len L k
theorem outB_in (L : List Int) : ∀ k, ∀ x ∈ outB L k, 0 ≤ x ∧ x < 256
  | 0, x, hx => by
    have := List.eq_of_mem_replicate hx; subst this; decide
  | k + 1, x, hx => by
    rcases List.mem_or_eq_of_mem_set hx with hx | rfl
    · exact outB_in L k x hx
    exact ⟨Int.emod_nonneg _ (by decide), Int.emod_lt_of_pos _ (by decide)⟩
def restV (s : ByteArray) : ByteArray := s.extract (64 * (s.size / 64)) s.size
def padV (s : ByteArray) : ByteArray := restV s ++ ((⟨#[128]⟩ : ByteArray) ++ (⟨Array.replicate ((119 - (restV s).size) % 64) 0⟩ : ByteArray)) ++ (⟨(bytesI (szV s.size 8)).toArray⟩ : ByteArray)
def sumS (s : ByteArray) : List Int := hsV (padV s) (hsV s ini8 (s.size / 64)) ((padV s).size / 64)
def sumV (s : ByteArray) : ByteArray := ⟨(bytesI (outB (sumS s) 32)).toArray⟩
theorem bytesI_len (l : List Int) : (bytesI l).length = l.length := List.length_map _
theorem sumV_size (s : ByteArray) : (sumV s).size = 32 := by
  show (bytesI (outB (sumS s) 32)).toArray.size = 32
  rw [List.size_toArray, bytesI_len, outB_len]
set_option maxRecDepth 100000 in
theorem ix8 (a b c d e f g h : Int) (w : World) : ∀ (i : Nat), i < 8 → (Instr.index 256 (.agg #[.int .u32 a, .int .u32 b, .int .u32 c, .int .u32 d, .int .u32 e, .int .u32 f, .int .u32 g, .int .u32 h]) (.int .i64 i)).run Tryz.prog w = .ok (.int .u32 ([a, b, c, d, e, f, g, h].getD i 0)) w
  | 0, _ => by kernel_rfl
  | 1, _ => by kernel_rfl
  | 2, _ => by kernel_rfl
  | 3, _ => by kernel_rfl
  | 4, _ => by kernel_rfl
  | 5, _ => by kernel_rfl
  | 6, _ => by kernel_rfl
  | 7, _ => by kernel_rfl
  | k + 8, h => absurd h (by omega)
theorem ixL {L : List Int} (hl : L.length = 8) (w : World) (i : Nat) (hi : i < 8) : (Instr.index 256 (.agg #[.int .u32 (stOf L).a, .int .u32 (stOf L).b, .int .u32 (stOf L).c, .int .u32 (stOf L).d, .int .u32 (stOf L).e, .int .u32 (stOf L).f, .int .u32 (stOf L).g, .int .u32 (stOf L).h]) (.int .i64 i)).run Tryz.prog w = .ok (.int .u32 (L.getD i 0)) w := by
  rw [ix8 _ _ _ _ _ _ _ _ w i hi]; have h8 := list8 hl
  conv => rhs; rw [h8]
  rfl
theorem wpList_storeNew {P : Program} {ops : Array Oper} {rest : List Oper} {o : Oper} {a : Act} {Q : Exit → Act → World → Prop} (w : World) (t : TypeId) (c c' : Array Value) (hg : o.guard = none) (p v : Operand) (ho : o.op = Op.store t p v)
    (hp : a.eval p = .pointer (some ⟨w.heap.size, 0, none⟩)) (hv : a.eval v = .agg c') (hi : (P.info? t).map (·.size) = some c'.size) (hc : c.size = c'.size) (h1 : c'.all (·.oneCell') = true)
    (h : wpList P ops Q rest (a.put o.dst undef) (w.alloc (.cells c' t))) : wpList P ops Q (o :: rest) a (w.alloc (.cells c t)) := by
  refine wpList_plain hg fun K hK => ?_
  have hrun := run_storeAt_new (P := P) w t c c' hi hc h1; unfold Oper.wp; simp [execOp, ho, hp, hv, hrun, Result.andThen]; exact hK _ _ h
end
end Go.Proofs.YthciejabapdbgaaGreatDoor
