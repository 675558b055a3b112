/- The walks of package code's writers (Num, Text, Flag, All): what they return. Conditions: numbers from 0 on, texts of less than 2^40 bytes. -/
import Derived.Test.YtpaeihdkggbeoaaProg
import Derived.Test.YtpaeihdkggbeoaaMem
import Derived.Test.YtpaeihdkggbeoaaPlain
import Derived.WalkSpells
import Derived.WalkLawsBesides
import Derived.Maps.AppendAt
import Derived.KernelRfl
namespace Go.Proofs.Ytpaeihdkggbeoaa
open Go.RowKit Go.Op

/-- a flag's byte -/
def flagS (b : Bool) : ByteArray := ⟨#[if b then 1 else 0]⟩
theorem flag_any (b : Bool) (w : World) : Calls Try.prog 38 #[.bool b] w fun e w' => e = .returned (.string (flagS b)) ∧ w = w' := by
  cases b
  all_goals
    go_enter Try.func38, Try.ntmps38
    go_wp2
    go_ret
    exact ⟨rfl, rfl⟩

theorem info5 : (Try.prog.info? 5).map (fun i => (i.zero, i.size, i.bytes)) = some (some (.int .u8 0), 1, 1) := by kernel_rfl

/-- bytes as cells -/
def byteV (c : UInt8) : Value := .int .u8 c.toNat
def NumPost (w : World) (n : Nat) (e : Ending) (w' : World) : Prop := e = .returned (.string ⟨(Pl.num n).toArray⟩) ∧ Off [] w w'

theorem or128 : ∀ x : Fin 256, bits BinOp.or IntKind.u8 ((x.val : Nat) : Int) 128 = ((UInt8.ofNat (128 + x.val % 128)).toNat : Int) := by decide +kernel
theorem or_byte (k : Nat) : bits BinOp.or IntKind.u8 ((k : Int) % 256) 128 = ((UInt8.ofNat (128 + k % 128)).toNat : Int) := by
  have h := or128 ⟨k % 256, Nat.mod_lt _ (by omega)⟩
  simp only [] at h
  rw [show ((k : Int) % 256) = ((k % 256 : Nat) : Int) by omega, h, show k % 256 % 128 = k % 128 by omega]

/-- a row of bytes of the call's own, made a string -/
theorem run_own_string {w : World} {base n : Nat} {v : Value} {l : List UInt8} (h : w.ownsRow base 5 1 v (n + 1) (l.map byteV)) :
    (convert 113 9 v).run Try.prog w = .ok (.string ⟨l.toArray⟩) w := by
  obtain ⟨g, cap, rfl⟩ := ownsRow_succ h
  have hl : l.length = n + 1 := by have := h.1; simpa using this
  rw [← hl]
  refine run_convert_bytes_back w 113 9 5 _ cap l Try.underlying113 Try.underlying5 Try.underlying9 ?_
  intro j hj
  rw [addr_add]
  have := h.cells (g := g) rfl j (byteV l[j]) (by simp [hj])
  simpa [byteV, addr_add] using this

theorem numOff_end {w wr w1 : World} {b : Value} {n : Nat} {xs : List Value} {o : Obj} (hoff : Off [] w wr) (hown : wr.ownsRow w.heap.size 5 1 b n xs) (hg : (wr.alloc o).grownBy w1 b.ownBlock) : Off [] w w1 := by
  refine (hoff.alloc o).grown hg (fun g hg' => .inl ?_)
  rcases hown.2 with ⟨rfl, _⟩ | ⟨g', cap, cur, rfl, hb, _⟩
  · cases hg'
  · cases hg'; exact hb

def NumRel (w : World) (n : Nat) (x b : Value) (wr : World) : Prop :=
  ∃ (k : Nat) (bs : List UInt8), k ≤ n ∧ bs.length ≤ 10 ∧ x = .int .i64 k ∧ wr.ownsRow w.heap.size 5 1 b bs.length (bs.map byteV) ∧ Hid (bs ++ Pl.num k = Pl.num n) ∧ Off [] w wr

theorem numRel_step {w wr w1 : World} {n k : Nat} {bs : List UInt8} {b v' : Value} {o : Obj} (hn : n < 9223372036854775807) (hk : k ≤ n) (hlt : 127 < k) (HB : Hid (bs ++ Pl.num k = Pl.num n)) (hoff : Off [] w wr)
    (hown : wr.ownsRow w.heap.size 5 1 b bs.length (bs.map byteV))
    (hown' : w1.ownsRow w.heap.size 5 1 v' (bs.length + 1) (bs.map byteV ++ [.int .u8 ((UInt8.ofNat (128 + k % 128)).toNat : Int)])) (hg : (wr.alloc o).grownBy w1 b.ownBlock) : NumRel w n (.int .i64 ((k / 128 : Nat) : Int)) v' w1 := by
  have HB' := HB.out
  rw [Pl.num_big (by omega)] at HB'
  refine ⟨k / 128, bs ++ [UInt8.ofNat (128 + k % 128)], by omega, ?_, rfl, ?_, ?_, ?_⟩
  · have h1 := congrArg List.length HB'
    have h2 := Pl.num_len 9 n (by omega)
    have h3 := Pl.num_pos (k / 128)
    simp at h1 ⊢
    omega
  · simpa [byteV] using hown'
  · show _ = _
    rw [← HB']; simp
  · exact numOff_end hoff hown hg

set_option maxRecDepth 100000 in
set_option maxHeartbeats 800000 in
theorem num_any (n : Nat) (w : World) (hn : n < 9223372036854775807) : Calls Try.prog 36 #[.int .i64 n] w (NumPost w n) := by
  obtain ⟨i0, hi, hz0, hz1, hz2⟩ := info_parts info5
  have h0 : decide ((n : Int) < 0) = false := by simp
  go_enter Try.func36, Try.ntmps36
  go_wp2_with fail
  go_loopw [0, 3] (fun x b wr => NumRel w n x b wr) (fun x _ _ => (intOf x).toNat)
  case atStart => exact ⟨n, [], Nat.le_refl _, by simp, rfl, ⟨rfl, .inl ⟨rfl, rfl⟩⟩, rfl, Off.refl _ _⟩
  case round =>
    obtain ⟨k, bs, hk, hlen, rfl, hown, HB, hoff⟩ := hrel
    by_cases hlt : 127 < k
    · have hbit := or_byte k
      go_wp2_with (at_builtin; refine wpList_append_own _ rfl _ _ 113 rfl w.heap.size 5 i0 (.int .u8 0) 1 1 Try.underlying113 hi hz0 hz1 hz2 rfl (by decide) _ _ _ rfl (hown.alloc _) ⟨wr.heap.size, 0, none⟩ 1 1 [_] rfl rfl (cell_one_new _ _ _) (by simp [Value.oneCell']) (by unfold maxLen; omega) (by omega) (by have := hoff.size; simp; omega) ?_; intro v' w1 hown' hgrow _)
      go_roundw
      case rel => exact numRel_step hn hk hlt HB hoff hown hown' hgrow
      case measure => simp [intOf]; omega
    · have hbit : (k : Int) = ((UInt8.ofNat k).toNat : Int) := by simp; omega
      have hfin : Pl.num n = bs ++ [UInt8.ofNat k] := by rw [← HB.out, Pl.num_small (by omega)]
      have HF := Lib.hid hfin
      have HK := Lib.hid hbit
      clear hfin hbit
      go_wp2_with (first | (at_builtin; refine wpList_append_own _ rfl _ _ 113 rfl w.heap.size 5 i0 (.int .u8 0) 1 1 Try.underlying113 hi hz0 hz1 hz2 rfl (by decide) _ _ _ rfl (hown.alloc _) ⟨wr.heap.size, 0, none⟩ 1 1 [_] rfl rfl (cell_one_new _ _ _) (by simp [Value.oneCell']) (by unfold maxLen; omega) (by omega) (by have := hoff.size; simp; omega) ?_; intro v' w1 hown' hgrow _; have hcv := run_own_string (l := bs ++ [UInt8.ofNat k]) (by rw [HK.out] at hown'; simpa [byteV] using hown')))
      go_ret
      exact ⟨by rw [← HF.out]; rfl, numOff_end hoff hown hgrow⟩
end Go.Proofs.Ytpaeihdkggbeoaa
