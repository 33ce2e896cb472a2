/-
  mix.Mix, mix.Next; the document's Mix, on every number. Conditions: none.
-/
import Derived.Test.YtjmkejindmgckaaApp
import Derived.Test.YtjmkejindmgckaaProg
import Derived.WalkKit
import Derived.Laws.Bits64
import Derived.Laws.BitsAllLaws
namespace Go.Proofs.Ytjmkejindmgckaa
open Go.RowKit

def mixA (x : Nat) : Nat := (x ^^^ x / 1073741824) * 13787848793156543929 % 18446744073709551616
def mixB (x : Nat) : Nat := (x ^^^ x / 134217728) * 10723151780598845931 % 18446744073709551616
def mixC (x : Nat) : Nat := x ^^^ x / 2147483648
/-- The mixed number. -/
def mixN (x : Nat) : Nat := mixC (mixB (mixA x))
theorem mixA_lt (x : Nat) : mixA x < 18446744073709551616 := Nat.mod_lt _ (by decide)
theorem mixB_lt (x : Nat) : mixB x < 18446744073709551616 := Nat.mod_lt _ (by decide)
theorem mixC_lt {x : Nat} (h : x < 18446744073709551616) : mixC x < 18446744073709551616 := by
  have : mixC x < 2 ^ 64 := Nat.xor_lt_two_pow (by omega) (Nat.lt_of_le_of_lt (Nat.div_le_self _ _) (by omega))
  omega
theorem mixN_lt (x : Nat) : mixN x < 18446744073709551616 := mixC_lt (mixB_lt _)

theorem stepA {x : Nat} (h : x < 18446744073709551616) : IntKind.u64.wrap (bits .xor .u64 (x : Int) ((x : Int) / 1073741824) * 13787848793156543929) = ((mixA x : Nat) : Int) := mixStep_u64 x 1073741824 13787848793156543929 h
theorem stepB {x : Nat} (h : x < 18446744073709551616) : IntKind.u64.wrap (bits .xor .u64 (x : Int) ((x : Int) / 134217728) * 10723151780598845931) = ((mixB x : Nat) : Int) := mixStep_u64 x 134217728 10723151780598845931 h
theorem stepC {x : Nat} (h : x < 18446744073709551616) : bits .xor .u64 (x : Int) ((x : Int) / 2147483648) = ((mixC x : Nat) : Int) := xorShift_u64 x 2147483648 h
theorem tdiv_u64 {x : Nat} (h : x < 18446744073709551616) (k : Nat) : IntKind.u64.wrap ((x : Int).tdiv (k : Int)) = (x : Int) / (k : Int) := by
  rw [IntKind.wrap_u64, Int.tdiv_eq_ediv_of_nonneg (by omega)]
  have h1 : x / k < 18446744073709551616 := Nat.lt_of_le_of_lt (Nat.div_le_self _ _) h
  rw [show (x : Int) / (k : Int) = ((x / k : Nat) : Int) from (Int.natCast_ediv x k).symm]
  generalize x / k = y at h1
  omega
theorem tdivB {x : Nat} (h : x < 18446744073709551616) : IntKind.u64.wrap ((x : Int).tdiv 134217728) = (x : Int) / 134217728 := tdiv_u64 h 134217728
theorem tdivC {x : Nat} (h : x < 18446744073709551616) : IntKind.u64.wrap ((x : Int).tdiv 2147483648) = (x : Int) / 2147483648 := tdiv_u64 h 2147483648
theorem tdivD {x : Nat} (h : x < 18446744073709551616) : IntKind.u64.wrap ((x : Int).tdiv 256) = (x : Int) / 256 := tdiv_u64 h 256

theorem mix_any (x : Nat) (hx : x < 18446744073709551616) (w : World) : Calls Try.prog 97 #[.int .u64 x] w fun e w' => e = .returned (.int .u64 (mixN x)) ∧ w = w' := by
  go_enter Try.func97, Try.ntmps97
  go_wp2
  go_ret
  refine ⟨?_, rfl⟩
  simp only [stepA hx, tdivB (mixA_lt _), stepB (mixA_lt _), tdivC (mixB_lt _), stepC (mixB_lt _)]
  rfl
theorem rmix_any (x : Nat) (hx : x < 18446744073709551616) (w : World) : Calls Try.prog 72 #[.int .u64 x] w fun e w' => e = .returned (.int .u64 (mixN x)) ∧ w = w' := by
  go_enter Try.func72, Try.ntmps72
  go_wp2
  go_ret
  refine ⟨?_, rfl⟩
  simp only [stepA hx, tdivB (mixA_lt _), stepB (mixA_lt _), tdivC (mixB_lt _), stepC (mixB_lt _)]
  rfl
/-- The next state. -/
def nextN (x : Nat) : Nat := (x + 11400714819323198485) % 18446744073709551616
theorem nextN_lt (x : Nat) : nextN x < 18446744073709551616 := Nat.mod_lt _ (by decide)
theorem step_next (x : Nat) : IntKind.u64.wrap ((x : Int) + 11400714819323198485) = (nextN x : Int) := by rw [IntKind.wrap_u64]; unfold nextN; omega
theorem next_any (x : Nat) (hx : x < 18446744073709551616) (w : World) : Calls Try.prog 95 #[.int .u64 x] w fun e w' => e = .returned (.tuple #[.int .u64 (nextN x), .int .u64 (mixN (nextN x))]) ∧ w = w' := by
  go_enter Try.func95, Try.ntmps95
  go_wp2_with fail
  rw [step_next]
  refine (mix_any _ (nextN_lt x) _).mono ?_
  rintro e w1 ⟨rfl, rfl⟩
  go_wp2_with fail
  go_ret2
  exact ⟨rfl, rfl⟩
end Go.Proofs.Ytjmkejindmgckaa
