/- The walks of package code's reader at numbers of one to three bytes, at texts and flags that are there: what they return and what is left. Conditions: texts of less than 2^40 bytes. -/
import Derived.Test.YtpaeihdkggbeoaaCode
import Derived.Deep.RegionHeld3
import Derived.Deep.QuietTactic
import Derived.BigQuiet
namespace Go.Proofs.Ytpaeihdkggbeoaa
open Go.RowKit Go.Op

theorem wrap_i64_nat (x : Nat) (h : x < 9223372036854775808) : IntKind.i64.wrap (x : Int) = x := by
  simp [IntKind.wrap, IntKind.bits, IntKind.signed]; omega
theorem i64_or_nat (a b : Nat) (ha : a < 4611686018427387904) (hb : b < 4611686018427387904) : bits .or .i64 (a : Int) (b : Int) = ((a ||| b : Nat) : Int) := by
  have hx : a ||| b < 2 ^ 62 := Nat.or_lt_two_pow (by omega) (by omega)
  show IntKind.i64.wrap ((BitVec.ofInt 64 (a : Int) ||| BitVec.ofInt 64 (b : Int)).toNat : Int) = _
  rw [BitVec.toNat_or, ofInt_u64 a (by omega), ofInt_u64 b (by omega), wrap_i64_nat _ (by omega)]
theorem numA : ∀ c : Fin 256, wrap64 (wrap64 (bits BinOp.and IntKind.u8 ((c.val : Nat) : Int) 127)) = ((c.val % 128 : Nat) : Int) := by decide +kernel
theorem numB : ∀ c : Fin 256, wrap64 (wrap64 (bits BinOp.and IntKind.u8 ((c.val : Nat) : Int) 127) * 128) = ((c.val % 128 * 128 : Nat) : Int) := by decide +kernel
theorem numC : ∀ c : Fin 256, wrap64 (wrap64 (bits BinOp.and IntKind.u8 ((c.val : Nat) : Int) 127) * 16384) = ((c.val % 128 * 16384 : Nat) : Int) := by decide +kernel
theorem num0 : bits BinOp.or IntKind.i64 0 (wrap64 (wrap64 (bits BinOp.and IntKind.u8 0 127))) = ((0 % 128 : Nat) : Int) := by decide +kernel
theorem num1 (c : UInt8) : bits BinOp.or IntKind.i64 0 (wrap64 (wrap64 (bits BinOp.and IntKind.u8 (c.toNat : Int) 127))) = ((c.toNat % 128 : Nat) : Int) := by
  rw [numA ⟨c.toNat, c.toNat_lt⟩]
  have := i64_or_nat 0 (c.toNat % 128) (by omega) (by omega)
  simpa using this
theorem num2 (c d : UInt8) : bits BinOp.or IntKind.i64 (bits BinOp.or IntKind.i64 0 (wrap64 (wrap64 (bits BinOp.and IntKind.u8 (c.toNat : Int) 127)))) (wrap64 (wrap64 (bits BinOp.and IntKind.u8 (d.toNat : Int) 127) * 128)) = ((c.toNat % 128 + d.toNat % 128 * 128 : Nat) : Int) := by
  rw [num1, numB ⟨d.toNat, d.toNat_lt⟩, i64_or_nat _ _ (by omega) (by omega), Nat.or_comm, nat_join 7 _ _ (by omega) (by omega)]
  simp only []; omega
theorem num3 (c d e : UInt8) : bits BinOp.or IntKind.i64 (bits BinOp.or IntKind.i64 (bits BinOp.or IntKind.i64 0 (wrap64 (wrap64 (bits BinOp.and IntKind.u8 (c.toNat : Int) 127)))) (wrap64 (wrap64 (bits BinOp.and IntKind.u8 (d.toNat : Int) 127) * 128))) (wrap64 (wrap64 (bits BinOp.and IntKind.u8 (e.toNat : Int) 127) * 16384)) = ((c.toNat % 128 + d.toNat % 128 * 128 + e.toNat % 128 * 16384 : Nat) : Int) := by
  rw [num2, numC ⟨e.toNat, e.toNat_lt⟩, i64_or_nat _ _ (by omega) (by omega), Nat.or_comm, nat_join 14 _ _ (by omega) (by omega)]
  simp only []; omega

/-- what reading a number leaves behind -/
def NumGot (w : World) (n : Nat) (r : ByteArray) (e : Ending) (w' : World) : Prop := e = .returned (.tuple #[.int .i64 n, .string r, .int .i64 0]) ∧ Off [] w w'

set_option maxRecDepth 100000 in
theorem number_1 (g : Nat) (s : ByteArray) (f : Value) (w : World) (hs : 1 ≤ s.size) (hs2 : s.size < 1099511627776) (h0 : s[0].toNat < 128)
   (hc : ∀ i, w.cell? ⟨g, i, none⟩ = (#[.string s, f] : Array Value)[i]?) :
    Calls Try.prog 61 #[.pointer (some ⟨g, 0, none⟩)] w (NumGot w (s[0].toNat % 128) (s.extract 1 s.size)) := by
  have HN := Lib.hid (num1 s[0])
  go_enter Try.func61, Try.ntmps61
  go_wp2_with fail
  refine wp_loop_rounds 1 ?_
  rw [rounds_succ]
  go_wp2
  all_goals go_quiet (fail)
  all_goals go_wp2
  all_goals go_ret3
  all_goals refine ⟨?_, (Off.refl _ _).drewN _⟩
  · have hz : s[0].toNat = 0 := by assumption
    simp only [Array.getD, List.size_toArray, List.length_cons, List.length_nil]
    rw [hz]
    exact congrArg (fun x : Int => Ending.returned (.tuple #[.int .i64 x, .string (s.extract 1 s.size), .int .i64 0])) num0
  · simp only [Array.getD, List.size_toArray, List.length_cons, List.length_nil]
    rw [← HN.out]
    rfl


set_option maxRecDepth 100000 in
theorem number_2 (g : Nat) (s : ByteArray) (f : Value) (w : World) (hs : 2 ≤ s.size) (hs2 : s.size < 1099511627776) (h0 : 128 ≤ s[0].toNat) (h1 : s[1].toNat < 128) (h2 : 0 < s[1].toNat)
   (hc : ∀ i, w.cell? ⟨g, i, none⟩ = (#[.string s, f] : Array Value)[i]?) :
    Calls Try.prog 61 #[.pointer (some ⟨g, 0, none⟩)] w (NumGot w (s[0].toNat % 128 + s[1].toNat % 128 * 128) (s.extract 2 s.size)) := by
  have HN := Lib.hid (num2 s[0] s[1])
  go_enter Try.func61, Try.ntmps61
  go_wp2_with fail
  refine wp_loop_rounds 2 ?_
  rw [rounds_succ]
  go_wp2
  rw [rounds_succ]
  go_wp2
  all_goals go_quiet (fail)
  all_goals go_wp2
  all_goals go_ret3
  all_goals refine ⟨?_, (Off.refl _ _).drewN _⟩
  simp only [Array.getD, List.size_toArray, List.length_cons, List.length_nil]
  rw [← HN.out]
  rfl
set_option maxRecDepth 100000 in
theorem number_3 (g : Nat) (s : ByteArray) (f : Value) (w : World) (hs : 3 ≤ s.size) (hs2 : s.size < 1099511627776) (h0 : 128 ≤ s[0].toNat) (h1 : 128 ≤ s[1].toNat) (h2 : s[2].toNat < 128) (h2' : 0 < s[2].toNat)
   (hc : ∀ i, w.cell? ⟨g, i, none⟩ = (#[.string s, f] : Array Value)[i]?) :
    Calls Try.prog 61 #[.pointer (some ⟨g, 0, none⟩)] w (NumGot w (s[0].toNat % 128 + s[1].toNat % 128 * 128 + s[2].toNat % 128 * 16384) (s.extract 3 s.size)) := by
  have HN := Lib.hid (num3 s[0] s[1] s[2])
  go_enter Try.func61, Try.ntmps61
  go_wp2_with fail
  refine wp_loop_rounds 3 ?_
  rw [rounds_succ]
  go_wp2
  rw [rounds_succ]
  go_wp2
  rw [rounds_succ]
  go_wp2
  all_goals go_quiet (fail)
  all_goals go_wp2
  all_goals go_ret3
  all_goals refine ⟨?_, (Off.refl _ _).drewN _⟩
  simp only [Array.getD, List.size_toArray, List.length_cons, List.length_nil]
  rw [← HN.out]
  rfl

/-- A NUMBER OF THREE BYTES AT MOST, READ -/
theorem number_any (g n : Nat) (r : ByteArray) (f : Value) (w : World) (hn : n < 2097152) (hr : r.size < 549755813888)
   (hc : ∀ i, w.cell? ⟨g, i, none⟩ = (#[.string (⟨(Pl.num n).toArray⟩ ++ r), f] : Array Value)[i]?) :
    Calls Try.prog 61 #[.pointer (some ⟨g, 0, none⟩)] w (NumGot w n r) := by
  have hsz : (ByteArray.mk (Pl.num n).toArray ++ r).size = (Pl.num n).length + r.size := by rw [ByteArray.size_append]; rfl
  have hlen : (Pl.num n).length ≤ 3 := Pl.num_len 2 n (by omega)
  have hext : ∀ k, k = (Pl.num n).length → (ByteArray.mk (Pl.num n).toArray ++ r).extract k (ByteArray.mk (Pl.num n).toArray ++ r).size = r := by
    intro k hk
    subst hk
    apply ByteArray.ext
    rw [hsz]
    simp [ByteArray.data_append, ByteArray.data_extract]
  have hget : ∀ (k : Nat) (c : UInt8) (hk : k < (ByteArray.mk (Pl.num n).toArray ++ r).size), (Pl.num n)[k]? = some c → (ByteArray.mk (Pl.num n).toArray ++ r)[k] = c := by
    intro k c hk hkc
    obtain ⟨hlt, he⟩ := List.getElem?_eq_some_iff.1 hkc
    show (ByteArray.mk (Pl.num n).toArray ++ r).data[k] = c
    simp only [ByteArray.data_append]
    rw [Array.getElem_append_left (by simpa using hlt)]
    simpa using he
  by_cases h1 : n < 128
  · have e := Pl.num_small h1
    have g0 := hget 0 (UInt8.ofNat n) (by rw [hsz, e]; simp; omega) (by rw [e]; rfl)
    have t0 : (UInt8.ofNat n).toNat = n := by simp; omega
    have := number_1 g _ f w (by rw [hsz, e]; simp) (by rw [hsz]; omega) (by rw [g0, t0]; exact h1) hc
    rw [g0, t0, hext 1 (by rw [e]; rfl), Nat.mod_eq_of_lt h1] at this
    exact this
  · by_cases h2 : n < 16384
    · have e : Pl.num n = [UInt8.ofNat (128 + n % 128), UInt8.ofNat (n / 128)] := by rw [Pl.num_big (by omega), Pl.num_small (by omega)]
      have g0 := hget 0 (UInt8.ofNat (128 + n % 128)) (by rw [hsz, e]; simp; omega) (by rw [e]; rfl)
      have g1 := hget 1 (UInt8.ofNat (n / 128)) (by rw [hsz, e]; simp; omega) (by rw [e]; rfl)
      have t0 : (UInt8.ofNat (128 + n % 128)).toNat = 128 + n % 128 := by simp; omega
      have t1 : (UInt8.ofNat (n / 128)).toNat = n / 128 := by simp; omega
      have := number_2 g _ f w (by rw [hsz, e]; simp) (by rw [hsz]; omega) (by rw [g0, t0]; omega) (by rw [g1, t1]; omega) (by rw [g1, t1]; omega) hc
      rw [g0, t0, g1, t1, hext 2 (by rw [e]; rfl), show (128 + n % 128) % 128 + n / 128 % 128 * 128 = n by omega] at this
      exact this
    · have e : Pl.num n = [UInt8.ofNat (128 + n % 128), UInt8.ofNat (128 + n / 128 % 128), UInt8.ofNat (n / 128 / 128)] := by rw [Pl.num_big (by omega), Pl.num_big (by omega), Pl.num_small (by omega)]
      have g0 := hget 0 (UInt8.ofNat (128 + n % 128)) (by rw [hsz, e]; simp; omega) (by rw [e]; rfl)
      have g1 := hget 1 (UInt8.ofNat (128 + n / 128 % 128)) (by rw [hsz, e]; simp; omega) (by rw [e]; rfl)
      have g2 := hget 2 (UInt8.ofNat (n / 128 / 128)) (by rw [hsz, e]; simp; omega) (by rw [e]; rfl)
      have t0 : (UInt8.ofNat (128 + n % 128)).toNat = 128 + n % 128 := by simp; omega
      have t1 : (UInt8.ofNat (128 + n / 128 % 128)).toNat = 128 + n / 128 % 128 := by simp; omega
      have t2 : (UInt8.ofNat (n / 128 / 128)).toNat = n / 128 / 128 := by simp; omega
      have := number_3 g _ f w (by rw [hsz, e]; simp) (by rw [hsz]; omega) (by rw [g0, t0]; omega) (by rw [g1, t1]; omega) (by rw [g2, t2]; omega) (by rw [g2, t2]; omega) hc
      rw [g0, t0, g1, t1, g2, t2, hext 3 (by rw [e]; rfl), show (128 + n % 128) % 128 + (128 + n / 128 % 128) % 128 * 128 + n / 128 / 128 % 128 * 16384 = n by omega] at this
      exact this

/-- the closure of Num -/
theorem num_cl (n : Int) (r : ByteArray) (w : World) : Calls Try.prog 55 #[.int .i64 n, .string r] w fun e w' => e = .returned (.tuple #[.string r, .int .i64 0]) ∧ w = w' := by
  go_enter Try.func55, Try.ntmps55
  go_wp2
  go_ret2
  exact ⟨rfl, rfl⟩

/-- a reader's two blocks -/
structure Rdr (w : World) (gR gB : Nat) (s : ByteArray) : Prop where
  r : Blk w gR 121 #[.pointer (some ⟨gB, 0, none⟩)]
  b : Blk w gB 119 #[.string s, .int .i64 0]
def RdrPost (w : World) (gR gB : Nat) (v : Value) (s : ByteArray) (e : Ending) (w' : World) : Prop := e = .returned v ∧ Rdr w' gR gB s ∧ Off [gB] w w'

set_option maxRecDepth 100000 in
theorem rNum (gR gB n : Nat) (r : ByteArray) (w : World) (hn : n < 2097152) (hr : r.size < 549755813888) (h : Rdr w gR gB (⟨(Pl.num n).toArray⟩ ++ r)) :
    Calls Try.prog 40 #[.pointer (some ⟨gR, 0, none⟩)] w (RdrPost w gR gB (.int .i64 n) r) := by
  obtain ⟨hR, hB⟩ := h
  have hcR := hR.cell
  have hcB := hB.cell
  have hlB := hB.lt
  have hne : gR ≠ gB := hR.ne_ hB (by decide)
  go_enter Try.func40, Try.ntmps40
  go_wp2_with (first | (go_at_call 61; refine (number_any _ _ _ _ _ hn hr hcB).mono ?_; rintro e w1 ⟨rfl, ho⟩; have hB1 := hB.off ho (by simp); have hcR1 := (hR.off ho (by simp)).cell; have hcB1 := hB1.cell; have hfB1 := hB1.frozen) | (go_at_call 55; refine (num_cl _ _ _).mono ?_; rintro e w2 ⟨rfl, rfl⟩) | go_in)
  go_ret
  have ho := (by assumption : Off [] w _)
  exact ⟨rfl, ⟨(hR.off ho (by simp)).far hne _, (hB.off ho (by simp)).set_ 0 _⟩, (ho.mono (by simp)).setCell (.inr (by simp)) _⟩

/-- the closure of Text, where the text is there -/
theorem text_cl (gm gs : Nat) (m : Nat) (n : Nat) (r : ByteArray) (w : World) (hn : n ≤ m) (_hm : m < 1099511627776) (hr : n ≤ r.size) (_hr2 : r.size < 1099511627776) (hM : Blk w gm 3 #[.int .i64 m]) (hS : ∃ u, Blk w gs 9 #[u]) :
    Calls Try.prog 56 #[.int .i64 n, .string r, .pointer (some ⟨gm, 0, none⟩), .pointer (some ⟨gs, 0, none⟩)] w fun e w' => e = .returned (.tuple #[.string (r.extract n r.size), .int .i64 0]) ∧ w.setCell ⟨gs, 0, none⟩ (.string (r.extract 0 n)) = w' := by
  obtain ⟨u, hS⟩ := hS
  have hcM := hM.cell
  have hcS := hS.cell
  have hfS := hS.frozen
  have hlS := hS.lt
  go_enter Try.func56, Try.ntmps56
  go_wp2
  go_ret2
  exact ⟨rfl, rfl⟩

theorem ba_left (x r : ByteArray) : (x ++ r).extract 0 x.size = x := by
  apply ByteArray.ext
  simp [ByteArray.data_append, ByteArray.data_extract]
theorem ba_right (x r : ByteArray) : (x ++ r).extract x.size (x ++ r).size = r := by
  apply ByteArray.ext
  rw [ByteArray.size_append]
  simp only [ByteArray.data_append, ByteArray.data_extract]
  show (x.data ++ r.data).extract x.data.size (x.data.size + r.data.size) = r.data
  generalize x.data = a
  generalize r.data = b
  simp [Array.extract_append]

/-- TAKE, with the closure of Text -/
theorem take_text (gR gB gm gs m : Nat) (x r : ByteArray) (w : World) (hx : x.size ≤ m) (hm : m < 2097152) (hr : r.size < 274877906944) (h : Rdr w gR gB (⟨(Pl.num x.size).toArray⟩ ++ (x ++ r)))
   (hM : Blk w gm 3 #[.int .i64 m]) (hS : Blk w gs 9 #[.string ⟨#[]⟩]) :
    Calls Try.prog 54 #[.pointer (some ⟨gR, 0, none⟩), .func (.func 56) #[] #[.pointer (some ⟨gm, 0, none⟩), .pointer (some ⟨gs, 0, none⟩)]] w fun e w' => e = .returned (.int .i64 x.size) ∧ Rdr w' gR gB r ∧ Blk w' gs 9 #[.string x] ∧ Off [gB, gs] w w' := by
  obtain ⟨hR, hB⟩ := h
  have hcR := hR.cell
  have hcB := hB.cell
  have hlB := hB.lt
  have hlR := hR.lt
  have hne : gR ≠ gB := hR.ne_ hB (by decide)
  have hne1 : gR ≠ gs := hR.ne_ hS (by decide)
  have hne2 : gB ≠ gs := hB.ne_ hS (by decide)
  have hxr : (x ++ r).size = x.size + r.size := ByteArray.size_append
  have e1 := ba_right x r
  have e2 := ba_left x r
  have n1 : x.size < 2097152 := by omega
  have n2 : (x ++ r).size < 549755813888 := by omega
  have HXR := Lib.hid hxr
  have E1 := Lib.hid e1
  have E2 := Lib.hid e2
  clear hxr e1 e2
  go_enter Try.func54, Try.ntmps54
  go_wp2_with (first
    | (go_at_call 61; refine (number_any _ _ _ _ _ n1 n2 hcB).mono ?_; rintro e w1 ⟨rfl, ho⟩; have hB1 := hB.off ho (by simp); have hcR1 := (hR.off ho (by simp)).cell; have hcB1 := hB1.cell; have hfB1 := hB1.frozen; have hM1 := hM.off ho (by simp); have hS1 := hS.off ho (by simp))
    | (go_at_call 56; refine (text_cl gm gs m _ _ _ hx (by omega) (by rw [HXR.out]; omega) (by omega) hM1 ⟨_, hS1⟩).mono ?_; rintro e w2 ⟨rfl, rfl⟩; rw [E1.out, E2.out]))
  go_ret
  have ho := (by assumption : Off [] w _)
  exact ⟨rfl, ⟨((hR.off ho (by simp)).far hne1 _).far hne _, ((hB.off ho (by simp)).far hne2 _).set_ 0 _⟩, ((hS.off ho (by simp)).set_ 0 _).far hne2.symm _, ((ho.mono (by simp)).setCell (.inr (by simp)) _).setCell (.inr (by simp)) _⟩

set_option maxRecDepth 100000 in
theorem rText (gR gB m : Nat) (x r : ByteArray) (w : World) (hx : x.size ≤ m) (hm : m < 2097152) (hr : r.size < 274877906944) (h : Rdr w gR gB (⟨(Pl.num x.size).toArray⟩ ++ (x ++ r))) :
    Calls Try.prog 41 #[.pointer (some ⟨gR, 0, none⟩), .int .i64 m] w (RdrPost w gR gB (.string x) r) := by
  have hlB := h.b.lt
  have hlR := h.r.lt
  have HT := Lib.hid (take_text gR gB w.heap.size (w.heap.size + 1) m x r ((w.alloc (.cells #[.int .i64 m] 3)).alloc (.cells #[.string ⟨#[]⟩] 9)) hx hm hr ⟨(h.r.alloc _).alloc _, (h.b.alloc _).alloc _⟩ ((Blk.new _ _ _).alloc _)
    (by have := Blk.new (w.alloc (.cells #[.int .i64 m] 3)) 9 #[.string ⟨#[]⟩]; simpa using this))
  go_enter Try.func41, Try.ntmps41
  go_wp2_with (go_at_call 54; refine HT.out.mono ?_; rintro e w1 ⟨rfl, hrd, hS, ho⟩; have hcS := hS.cell)
  go_ret
  exact ⟨rfl, by assumption, ((((Off.refl [gB] w).alloc _).alloc _).trans (by assumption) (by simp; omega))⟩
end Go.Proofs.Ytpaeihdkggbeoaa
