/- Plain words: what numbers, texts and frames are as bytes. Conditions: none beyond what each lemma states. -/
namespace Go.Proofs.Ytpaeihdkggbeoaa.Pl

/-- a number, seven bits a byte -/
def numF : Nat → Nat → List UInt8
  | 0, n => [UInt8.ofNat n]
  | f + 1, n => if n < 128 then [UInt8.ofNat n] else UInt8.ofNat (128 + n % 128) :: numF f (n / 128)
def num (n : Nat) : List UInt8 := numF n n

theorem numF_fuel : ∀ (f g n : Nat), n ≤ f → n ≤ g → numF f n = numF g n
  | 0, 0, n, _, _ => rfl
  | 0, g + 1, n, h, _ => by
    have : n = 0 := by omega
    subst this
    simp [numF]
  | f + 1, 0, n, _, h => by
    have : n = 0 := by omega
    subst this
    simp [numF]
  | f + 1, g + 1, n, hf, hg => by
    unfold numF
    split
    · rfl
    · rw [numF_fuel f g (n / 128) (by omega) (by omega)]

theorem num_small {n : Nat} (h : n < 128) : num n = [UInt8.ofNat n] := by
  unfold num
  cases n with
  | zero => rfl
  | succ k => unfold numF; rw [if_pos h]
theorem num_big {n : Nat} (h : 128 ≤ n) : num n = UInt8.ofNat (128 + n % 128) :: num (n / 128) := by
  unfold num
  cases n with
  | zero => omega
  | succ k =>
    conv => lhs; unfold numF
    rw [if_neg (by omega), numF_fuel k ((k + 1) / 128) ((k + 1) / 128) (by omega) (by omega)]

theorem num_len : ∀ (k n : Nat), n < 128 ^ (k + 1) → (num n).length ≤ k + 1 := by
  intro k
  induction k with
  | zero => intro n h; rw [num_small (by simpa using h)]; simp
  | succ k ih =>
    intro n h
    by_cases hn : n < 128
    · rw [num_small hn]; simp
    · rw [num_big (by omega)]
      have := ih (n / 128) (by rw [Nat.pow_succ] at h; omega)
      simp; omega
theorem num_pos (n : Nat) : 1 ≤ (num n).length := by
  by_cases hn : n < 128
  · rw [num_small hn]; simp
  · rw [num_big (by omega)]; simp
end Go.Proofs.Ytpaeihdkggbeoaa.Pl
