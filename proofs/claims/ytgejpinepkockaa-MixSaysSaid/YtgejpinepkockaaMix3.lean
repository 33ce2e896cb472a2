/-
  The plain law: both ways back are one number. No program in sight.
-/
import Derived.Test.YtgejpinepkockaaMix2
namespace Go.Proofs.Ytgejpinepkockaa

theorem uns_bit (y n k j : Nat) : (uns y (2 ^ n) (k + 1)).testBit j = Bool.xor (y.testBit j) ((uns y (2 ^ n) k).testBit (j + n)) := by
  show (y ^^^ uns y (2 ^ n) k / 2 ^ n).testBit j = _
  rw [Nat.testBit_xor, Nat.testBit_div_two_pow, Nat.add_comm]
theorem uns_fix {y n : Nat} (hy : y < 18446744073709551616) : ∀ k j, 64 ≤ j + k * n → (uns y (2 ^ n) (k + 1)).testBit j = (uns y (2 ^ n) k).testBit j
  | 0, j, h => by
    have hf : ∀ i, 64 ≤ i → y.testBit i = false := fun i hi => Nat.testBit_lt_two_pow (Nat.lt_of_lt_of_le hy (by have : (2 : Nat) ^ 64 ≤ 2 ^ i := Nat.pow_le_pow_right (by omega) hi; omega))
    rw [uns_bit]
    show Bool.xor (y.testBit j) (y.testBit (j + n)) = y.testBit j
    rw [hf (j + n) (by omega)]; simp
  | k + 1, j, h => by
    rw [uns_bit y n (k + 1) j, uns_fix hy k (j + n) (by rw [Nat.succ_mul] at h; omega), ← uns_bit]
/-- What xored with itself moved down is y. -/
theorem uns_back {y n : Nat} (hy : y < 18446744073709551616) (hn : 16 ≤ n) (j : Nat) : (uns y (2 ^ n) 5).testBit j = Bool.xor (y.testBit j) ((uns y (2 ^ n) 5).testBit (j + n)) := by
  rw [uns_fix hy 4 (j + n) (by omega), ← uns_bit]
theorem bkBit_is (y n x i : Nat) : bkBit y n x i = (Bool.xor (y.testBit i) (decide (i + n < 64) && x.testBit (i + n))).toNat := by
  unfold bkBit
  rw [← Nat.toNat_testBit, ← Nat.toNat_testBit]
  by_cases h : i + n < 64
  · rw [if_pos h]; simp only [h, decide_true, Bool.true_and]
    cases y.testBit i <;> cases x.testBit (i + n) <;> rfl
  · rw [if_neg h]; simp [h]
theorem bk_bit {y n : Nat} (hy : y < 18446744073709551616) (hn : 16 ≤ n) : ∀ m, m ≤ 64 → ∀ j, (bk y n m).testBit j = (decide (64 ≤ j + m) && (uns y (2 ^ n) 5).testBit j)
  | 0, _, j => by
    have hf : 64 ≤ j → (uns y (2 ^ n) 5).testBit j = false := fun hi => Nat.testBit_lt_two_pow (Nat.lt_of_lt_of_le (uns_lt hy 5) (by have : (2 : Nat) ^ 64 ≤ 2 ^ j := Nat.pow_le_pow_right (by omega) hi; omega))
    show (0 : Nat).testBit j = _
    rw [Nat.zero_testBit]
    by_cases h : 64 ≤ j
    · rw [hf h]; simp
    · simp [h]
  | m + 1, hm, j => by
    have hf : ∀ i, 64 ≤ i → (uns y (2 ^ n) 5).testBit i = false := fun i hi => Nat.testBit_lt_two_pow (Nat.lt_of_lt_of_le (uns_lt hy 5) (by have : (2 : Nat) ^ 64 ≤ 2 ^ i := Nat.pow_le_pow_right (by omega) hi; omega))
    show (bk y n m ||| bkBit y n (bk y n m) (63 - m) * 2 ^ (63 - m)).testBit j = _
    rw [Nat.testBit_or, Nat.testBit_mul_two_pow, bk_bit hy hn m (by omega) j, bkBit_is, bk_bit hy hn m (by omega)]
    have hb : Bool.xor (y.testBit (63 - m)) (decide (63 - m + n < 64) && (decide (64 ≤ 63 - m + n + m) && (uns y (2 ^ n) 5).testBit (63 - m + n))) = (uns y (2 ^ n) 5).testBit (63 - m) := by
      rw [uns_back hy hn (63 - m), show decide (64 ≤ 63 - m + n + m) = true from by simp; omega]
      by_cases h : 63 - m + n < 64
      · simp [h]
      · rw [hf (63 - m + n) (by omega)]; simp
    rw [hb]
    have ht : ∀ (b : Bool) (i : Nat), b.toNat.testBit i = (decide (i = 0) && b) := by
      intro b i
      cases b
      · simp
      · cases i <;> simp [Nat.testBit_succ]
    rw [ht]
    by_cases h1 : j = 63 - m
    · subst h1
      rw [show decide (64 ≤ 63 - m + m) = false from by simp; omega, show decide (64 ≤ 63 - m + (m + 1)) = true from by simp; omega]
      simp
    · by_cases h2 : 63 - m ≤ j
      · rw [show decide (j - (63 - m) = 0) = false from by simp; omega, show decide (64 ≤ j + m) = decide (64 ≤ j + (m + 1)) from by simp; omega]
        simp
      · rw [show decide (63 - m ≤ j) = false from by simp; omega, show decide (64 ≤ j + m) = decide (64 ≤ j + (m + 1)) from by simp; omega]
        simp
theorem back_is {y n : Nat} (hy : y < 18446744073709551616) (hn : 16 ≤ n) : bk y n 64 = uns y (2 ^ n) 5 := by
  apply Nat.eq_of_testBit_eq
  intro j
  rw [bk_bit hy hn 64 (by omega)]
  simp
theorem inverse_two : newton 10723151780598845931 6 = powW 62 10723151780598845931 4611686018427387903 := by decide +kernel
theorem inverse_one : newton 13787848793156543929 6 = powW 62 13787848793156543929 4611686018427387903 := by decide +kernel
theorem mixN_one : mixN 1 ≠ 0 := by decide +kernel
end Go.Proofs.Ytgejpinepkockaa
