/-
  mix.inverse, mix.unshift, culref.power, culref.back: the walks. Conditions: the amounts that the program hands them.
-/
import Derived.Test.YtgejpinepkockaaMix
namespace Go.Proofs.Ytgejpinepkockaa
open Go.RowKit

set_option maxRecDepth 20000 in
theorem len_two (w : World) : Calls Try.prog 116 #[.int .u64 2] w fun e w' => e = .returned (.int .i64 2) ∧ w = w' := by
  go_enter Try.func116, Try.ntmps116
  go_wp2
  go_ret
  exact ⟨by kernel_rfl, rfl⟩

/-- Newton's rounds. -/
def newton (a : Int) : Nat → Int
  | 0 => a
  | k + 1 => IntKind.u64.wrap (newton a k * IntKind.u64.wrap (2 - IntKind.u64.wrap (a * newton a k)))
theorem inverse_any (a : Int) (w : World) : Calls Try.prog 95 #[.int .u64 a] w fun e w' => e = .returned (.int .u64 (newton a 6)) ∧ w = w' := by
  go_enter Try.func95, Try.ntmps95
  go_wp2
  go_loop [3, 5] (fun v i => ∃ k : Nat, k ≤ 6 ∧ i = .int .i64 k ∧ v = .int .u64 (newton a k)) (fun _ i => 6 - (intOf i).toNat)
  case atStart => exact ⟨0, Nat.zero_le _, rfl, rfl⟩
  case round =>
    obtain ⟨k, hk, rfl, rfl⟩ := hrel
    by_cases hlt : k < 6
    · go_wp2
      go_round
      case rel => exact ⟨k + 1, by omega, by go_num, rfl⟩
      case measure => simp [intOf]; omega
    · obtain rfl : k = 6 := by omega
      go_wp2
      go_ret
      exact ⟨rfl, rfl⟩

/-- The document's power, with as many halvings as are allowed. -/
def powW : Nat → Int → Int → Int
  | 0, _, _ => 1
  | k + 1, a, n => if n = 0 then 1 else if n % 2 = 1 then IntKind.u64.wrap (powW k (IntKind.u64.wrap (a * a)) (n / 2) * a) else powW k (IntKind.u64.wrap (a * a)) (n / 2)
theorem power_any (k : Nat) : ∀ (a n : Int) (w : World), 0 ≤ n → n < 2 ^ k → n < 9223372036854775808 → Calls Try.prog 97 #[.int .u64 a, .int .u64 n] w fun e w' => e = .returned (.int .u64 (powW k a n)) ∧ w = w' := by
  induction k with
  | zero =>
    intro a n w h1 h2 h3
    obtain rfl : n = 0 := by omega
    go_enter Try.func97, Try.ntmps97
    go_wp2_with fail
    go_ret
    exact ⟨rfl, rfl⟩
  | succ k ih =>
    intro a n w h1 h2 h3
    by_cases h0 : n = 0
    · subst h0
      go_enter Try.func97, Try.ntmps97
      go_wp2_with fail
      go_ret
      exact ⟨rfl, rfl⟩
    have hn : n ≠ 0 := h0
    have hp : 0 < n := by omega
    have e1 : IntKind.u64.wrap (n.tdiv 2) = n / 2 := by rw [IntKind.wrap_u64, Int.tdiv_eq_ediv_of_nonneg h1]; omega
    have e2 : IntKind.u64.wrap (n.tmod 2) = n % 2 := by rw [IntKind.wrap_u64, Int.tmod_eq_emod_of_nonneg h1]; omega
    have hv : powW (k + 1) a n = if n % 2 = 1 then IntKind.u64.wrap (powW k (IntKind.u64.wrap (a * a)) (n / 2) * a) else powW k (IntKind.u64.wrap (a * a)) (n / 2) := by simp only [powW, if_neg hn]
    rw [hv]
    clear hv h0
    have hh : n / 2 < 2 ^ k := by have : (2 : Int) ^ (k + 1) = 2 ^ k * 2 := Int.pow_succ ..; omega
    have hb : n / 2 < 9223372036854775808 := by omega
    have hz : 0 ≤ n / 2 := by omega
    have E1 := hide e1; have E2 := hide e2; have Hn := hide hn; clear e1 e2 hn
    go_enter Try.func97, Try.ntmps97
    go_wp2_with fail
    refine (ih _ _ _ hz hh hb).mono ?_
    rintro e w1 ⟨rfl, rfl⟩
    by_cases h2 : n % 2 = 1
    · go_wp2_with fail
      go_ret
      exact ⟨rfl, rfl⟩
    · go_wp2_with fail
      go_ret
      exact ⟨rfl, rfl⟩

/-- The rounds of unshift; d: two to the amount. -/
def uns (y d : Nat) : Nat → Nat
  | 0 => y
  | k + 1 => y ^^^ uns y d k / d
theorem uns_lt {y d : Nat} (h : y < 18446744073709551616) : ∀ k, uns y d k < 18446744073709551616
  | 0 => h
  | k + 1 => by
    have : uns y d (k + 1) < 2 ^ 64 := Nat.xor_lt_two_pow (by omega) (Nat.lt_of_le_of_lt (Nat.div_le_self _ _) (by have := uns_lt h (d := d) k; omega))
    omega
theorem uns_step {y : Nat} (d : Nat) (h : y < 18446744073709551616) (k : Nat) : bits .xor .u64 (y : Int) ((uns y d k : Nat) / (d : Int)) = ((uns y d (k + 1) : Nat) : Int) := by
  rw [show ((uns y d k : Nat) : Int) / (d : Int) = ((uns y d k / d : Nat) : Int) from (Int.natCast_ediv _ _).symm]
  exact bits_xor_u64_nat _ _ h (Nat.lt_of_le_of_lt (Nat.div_le_self _ _) (uns_lt h k))
theorem unshift_31 (y : Nat) (hy : y < 18446744073709551616) (w : World) : Calls Try.prog 94 #[.int .u64 y, .int .i64 31] w fun e w' => e = .returned (.int .u64 (uns y (2 ^ 31) 5)) ∧ w = w' := by
  go_enter Try.func94, Try.ntmps94
  go_wp2_with fail
  refine (len_two _).mono ?_
  rintro e w1 ⟨rfl, rfl⟩
  go_wp2_with fail
  go_loop [5, 12] (fun v i => ∃ k : Nat, k ≤ 5 ∧ i = .int .i64 k ∧ v = .int .u64 (uns y (2 ^ 31) k)) (fun _ i => 5 - (intOf i).toNat)
  case atStart => exact ⟨0, Nat.zero_le _, rfl, rfl⟩
  case round =>
    obtain ⟨k, hk, rfl, rfl⟩ := hrel
    by_cases hlt : k < 5
    · go_wp2_with fail
      go_round
      case rel => exact ⟨k + 1, by omega, by go_num, by rw [← uns_step _ hy]; rfl⟩
      case measure => simp [intOf]; omega
    · obtain rfl : k = 5 := by omega
      go_wp2_with fail
      go_ret
      exact ⟨rfl, rfl⟩
theorem unshift_27 (y : Nat) (hy : y < 18446744073709551616) (w : World) : Calls Try.prog 94 #[.int .u64 y, .int .i64 27] w fun e w' => e = .returned (.int .u64 (uns y (2 ^ 27) 5)) ∧ w = w' := by
  go_enter Try.func94, Try.ntmps94
  go_wp2_with fail
  refine (len_two _).mono ?_
  rintro e w1 ⟨rfl, rfl⟩
  go_wp2_with fail
  go_loop [5, 12] (fun v i => ∃ k : Nat, k ≤ 5 ∧ i = .int .i64 k ∧ v = .int .u64 (uns y (2 ^ 27) k)) (fun _ i => 5 - (intOf i).toNat)
  case atStart => exact ⟨0, Nat.zero_le _, rfl, rfl⟩
  case round =>
    obtain ⟨k, hk, rfl, rfl⟩ := hrel
    by_cases hlt : k < 5
    · go_wp2_with fail
      go_round
      case rel => exact ⟨k + 1, by omega, by go_num, by rw [← uns_step _ hy]; rfl⟩
      case measure => simp [intOf]; omega
    · obtain rfl : k = 5 := by omega
      go_wp2_with fail
      go_ret
      exact ⟨rfl, rfl⟩
theorem unshift_30 (y : Nat) (hy : y < 18446744073709551616) (w : World) : Calls Try.prog 94 #[.int .u64 y, .int .i64 30] w fun e w' => e = .returned (.int .u64 (uns y (2 ^ 30) 5)) ∧ w = w' := by
  go_enter Try.func94, Try.ntmps94
  go_wp2_with fail
  refine (len_two _).mono ?_
  rintro e w1 ⟨rfl, rfl⟩
  go_wp2_with fail
  go_loop [5, 12] (fun v i => ∃ k : Nat, k ≤ 5 ∧ i = .int .i64 k ∧ v = .int .u64 (uns y (2 ^ 30) k)) (fun _ i => 5 - (intOf i).toNat)
  case atStart => exact ⟨0, Nat.zero_le _, rfl, rfl⟩
  case round =>
    obtain ⟨k, hk, rfl, rfl⟩ := hrel
    by_cases hlt : k < 5
    · go_wp2_with fail
      go_round
      case rel => exact ⟨k + 1, by omega, by go_num, by rw [← uns_step _ hy]; rfl⟩
      case measure => simp [intOf]; omega
    · obtain rfl : k = 5 := by omega
      go_wp2_with fail
      go_ret
      exact ⟨rfl, rfl⟩

/-- Bit i of what back makes, x being what the bits above have made. -/
def bkBit (y n x i : Nat) : Nat := if i + n < 64 then (y / 2 ^ i % 2) ^^^ (x / 2 ^ (i + n) % 2) else y / 2 ^ i % 2
/-- back, bits 63 .. 64 - m being done. -/
def bk (y n : Nat) : Nat → Nat
  | 0 => 0
  | m + 1 => bk y n m ||| bkBit y n (bk y n m) (63 - m) * 2 ^ (63 - m)
theorem bkBit_le (y n x i : Nat) : bkBit y n x i < 2 := by
  unfold bkBit
  split
  · have : (y / 2 ^ i % 2) ^^^ (x / 2 ^ (i + n) % 2) < 2 ^ 1 := Nat.xor_lt_two_pow (by omega) (by omega)
    omega
  · omega
theorem bit_shift {b i : Nat} (hb : b < 2) (hi : i < 64) : b * 2 ^ i < 18446744073709551616 := by
  have h1 : (2 : Nat) ^ i ≤ 2 ^ 63 := Nat.pow_le_pow_right (by omega) (by omega)
  have h2 : b * 2 ^ i ≤ 1 * 2 ^ i := Nat.mul_le_mul_right _ (by omega)
  omega
theorem bk_lt (y n : Nat) : ∀ m, bk y n m < 18446744073709551616
  | 0 => by simp [bk]
  | m + 1 => by
    have h2 := bit_shift (bkBit_le y n (bk y n m) (63 - m)) (i := 63 - m) (by omega)
    have : bk y n (m + 1) < 2 ^ 64 := Nat.or_lt_two_pow (by have := bk_lt y n m; omega) (by omega)
    omega
theorem bit_step {y : Nat} (hy : y < 18446744073709551616) (i : Nat) : bits .and .u64 ((y : Int) / 2 ^ i) 1 = ((y / 2 ^ i % 2 : Nat) : Int) := by
  rw [show (y : Int) / 2 ^ i = ((y / 2 ^ i : Nat) : Int) from by rw [Int.natCast_ediv]; simp]
  have := u64_and_nat (y / 2 ^ i) 1 (Nat.lt_of_le_of_lt (Nat.div_le_self _ _) hy) (by decide)
  rw [nat_mask1] at this; exact this
theorem or_step {x b i : Nat} (hx : x < 18446744073709551616) (hb : b < 2) (hi : i < 64) : bits .or .u64 (x : Int) (IntKind.u64.wrap ((b : Int) * 2 ^ i)) = ((x ||| b * 2 ^ i : Nat) : Int) := by
  have h2 := bit_shift hb hi
  rw [show (b : Int) * 2 ^ i = ((b * 2 ^ i : Nat) : Int) from by simp, IntKind.wrap_u64, show ((b * 2 ^ i : Nat) : Int) % 18446744073709551616 = ((b * 2 ^ i : Nat) : Int) from by generalize b * 2 ^ i = z at h2; omega]
  exact u64_or_nat _ _ hx h2
theorem back_any (n : Nat) (hn : n < 64) (y : Nat) (hy : y < 18446744073709551616) (w : World) : Calls Try.prog 96 #[.int .u64 y, .int .i64 n] w fun e w' => e = .returned (.int .u64 (bk y n 64)) ∧ w = w' := by
  go_enter Try.func96, Try.ntmps96
  go_wp2
  go_loop [5, 6] (fun v i => ∃ k : Nat, k ≤ 64 ∧ i = .int .i64 (63 - (k : Int)) ∧ v = .int .u64 (bk y n k)) (fun _ i => (intOf i + 1).toNat)
  case atStart => exact ⟨0, Nat.zero_le _, rfl, rfl⟩
  case round =>
    obtain ⟨k, hk, rfl, rfl⟩ := hrel
    by_cases hlt : k < 64
    · obtain ⟨i, hi⟩ : ∃ i : Nat, i + k = 63 := ⟨63 - k, by omega⟩
      have hv : bk y n (k + 1) = bk y n k ||| bkBit y n (bk y n k) i * 2 ^ i := by rw [show i = 63 - k by omega]; rfl
      rw [show (63 : Int) - (k : Int) = (i : Int) by omega]
      have hi4 : i < 64 := by omega
      by_cases hin : i + n < 64
      · go_wp2
        refine ⟨⟨k + 1, by omega, by congr 1; omega, ?_⟩, by simp [intOf]⟩
        rw [hv, bit_step hy, show (2 : Int) ^ (i + n) = 2 ^ (i + n) from rfl, bit_step (bk_lt y n k), bits_xor_u64_nat _ _ (by omega) (by omega)]
        rw [show (y / 2 ^ i % 2) ^^^ (bk y n k / 2 ^ (i + n) % 2) = bkBit y n (bk y n k) i from by unfold bkBit; rw [if_pos hin], or_step (bk_lt y n k) (bkBit_le _ _ _ _) hi4]
      · go_wp2
        refine ⟨⟨k + 1, by omega, by congr 1; omega, ?_⟩, by simp [intOf]⟩
        rw [hv, bit_step hy]
        rw [show (y / 2 ^ i % 2) = bkBit y n (bk y n k) i from by unfold bkBit; rw [if_neg hin], or_step (bk_lt y n k) (bkBit_le _ _ _ _) hi4]
    · obtain rfl : k = 64 := by omega
      go_wp2
      go_ret
      exact ⟨rfl, rfl⟩
end Go.Proofs.Ytgejpinepkockaa
