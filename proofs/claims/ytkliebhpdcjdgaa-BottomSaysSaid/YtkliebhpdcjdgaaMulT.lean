/-
  math/bits.Mul64, Div64 as products and quotients. No condition.
-/
import Derived.Test.YtkliebhpdcjdgaaDiv64
import Derived.Test.YtkliebhpdcjdgaaWithin
namespace Go.Proofs.Ytkliebhpdcjdgaa
open Go.RowKit Go.Shelf

def laysMul64_ren : Go.Shelf.Ren := ⟨fun | 264 => 59 | n => n, fun | 53 => 92 | 46 => 79 | n => n, fun | n => n⟩
theorem laysMul64 : Go.Proofs.Lays.n264 Try.prog laysMul64_ren := {
  mixed := by kernel_rfl
  f264 := Try.func59.trans (congrArg some (by kernel_rfl))
  t46 := Try.underlying79
  a46 := Try.isAgg79
  z46 := Try.sizeOf79
  v46 := Try.zeroValue79
  t53 := Try.underlying92
  a53 := Try.isAgg92
  z53 := Try.sizeOf92
  v53 := Try.zeroValue92 }
theorem mul64 {x y N : Nat} (hN : x * y = N) (hx : x < 18446744073709551616) (hy : y < 18446744073709551616) (w : World) : Calls Try.prog 59 #[.int .u64 x, .int .u64 y] w fun e w' => e = .returned (.tuple #[.int .u64 (N / 18446744073709551616 : Nat), .int .u64 (N % 18446744073709551616 : Nat)]) ∧ w = w' := by
  refine (Any.bits_Mul64 laysMul64 x y hx hy w).mono ?_
  rintro e w' ⟨rfl, rfl⟩
  rw [hN]
  exact ⟨rfl, rfl⟩
theorem div64 {hi lo y N : Nat} (hN : hi * 18446744073709551616 + lo = N) (h1 : hi < y) (h2 : y < 18446744073709551616) (h3 : lo < 18446744073709551616) (w : World) {A B : Nat} (hA : N / y = A) (hB : N % y = B) :
    Calls Try.prog 60 #[.int .u64 hi, .int .u64 lo, .int .u64 y] w fun e w' => e = .returned (.tuple #[.int .u64 A, .int .u64 B]) ∧ ∃ q, w' = w.drewN q := by
  subst hN
  subst hA
  subst hB
  rcases Nat.eq_zero_or_pos hi with h0 | h0
  · subst h0
    rw [Nat.zero_mul, Nat.zero_add]
    exact div64_low (by omega) h2 h3 w
  · have hl := Any.bitLen_le64 (y : Int) (by omega) (by omega)
    rw [Int.toNat_natCast] at hl
    refine (div64_high (s := 64 - Lib.bitLen y) h0 h1 h2 h3 (by omega) w).mono ?_
    rintro e w' ⟨rfl, rfl⟩
    exact ⟨rfl, 0, rfl⟩
end Go.Proofs.Ytkliebhpdcjdgaa
