/-
  math/bits.Mul64, Div64 as products and quotients. No condition.
-/
import Derived.Test.YtkliebhpdcjdgaaDoorDiv64
import Derived.Test.YtkliebhpdcjdgaaDoorWithin
namespace Go.Proofs.YtkliebhpdcjdgaaDoor
open Go.RowKit Go.Shelf

def laysMul64_ren : Go.Shelf.Ren := ⟨fun | 264 => 43 | n => n, fun | 53 => 61 | 46 => 63 | n => n, fun | n => n⟩
theorem laysMul64 : Go.Proofs.Lays.n264 Tryd.prog laysMul64_ren := {
  mixed := by kernel_rfl
  f264 := Tryd.func43.trans (congrArg some (by kernel_rfl))
  t46 := Tryd.underlying63
  a46 := Tryd.isAgg63
  z46 := Tryd.sizeOf63
  v46 := Tryd.zeroValue63
  t53 := Tryd.underlying61
  a53 := Tryd.isAgg61
  z53 := Tryd.sizeOf61
  v53 := Tryd.zeroValue61 }
theorem mul64 {x y N : Nat} (hN : x * y = N) (hx : x < 18446744073709551616) (hy : y < 18446744073709551616) (w : World) : Calls Tryd.prog 43 #[.int .u64 x, .int .u64 y] w fun e w' => e = .returned (.tuple #[.int .u64 (N / 18446744073709551616 : Nat), .int .u64 (N % 18446744073709551616 : Nat)]) ∧ w = w' := by
  refine (Any.bits_Mul64 laysMul64 x y hx hy w).mono ?_
  rintro e w' ⟨rfl, rfl⟩
  rw [hN]
  exact ⟨rfl, rfl⟩
theorem div64 {hi lo y N : Nat} (hN : hi * 18446744073709551616 + lo = N) (h1 : hi < y) (h2 : y < 18446744073709551616) (h3 : lo < 18446744073709551616) (w : World) {A B : Nat} (hA : N / y = A) (hB : N % y = B) :
    Calls Tryd.prog 44 #[.int .u64 hi, .int .u64 lo, .int .u64 y] w fun e w' => e = .returned (.tuple #[.int .u64 A, .int .u64 B]) ∧ ∃ q, w' = w.drewN q := by
  subst hN
  subst hA
  subst hB
  rcases Nat.eq_zero_or_pos hi with h0 | h0
  · subst h0
    rw [Nat.zero_mul, Nat.zero_add]
    exact div64_low (by omega) h2 h3 w
  · have hl := Any.bitLen_le64 (y : Int) (by omega) (by omega)
    rw [Int.toNat_natCast] at hl
    refine (div64_high (s := 64 - Lib.bitLen y) h0 h1 h2 h3 (by omega) w).mono ?_
    rintro e w' ⟨rfl, rfl⟩
    exact ⟨rfl, 0, rfl⟩
end Go.Proofs.YtkliebhpdcjdgaaDoor
