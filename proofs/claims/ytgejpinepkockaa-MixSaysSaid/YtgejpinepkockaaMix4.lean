/-
  mix.Unmix, mix.Of; culref.Unmix, culref.Hash: the walks. Conditions: none.
-/
import Derived.Test.YtgejpinepkockaaMix3
namespace Go.Proofs.Ytgejpinepkockaa
open Go.RowKit

def unA (y : Nat) : Nat := (IntKind.u64.wrap (((uns y (2 ^ 31) 5 : Nat) : Int) * newton 10723151780598845931 6)).toNat
def unB (y : Nat) : Nat := (IntKind.u64.wrap (((uns y (2 ^ 27) 5 : Nat) : Int) * newton 13787848793156543929 6)).toNat
theorem unA_is (y : Nat) : IntKind.u64.wrap (((uns y (2 ^ 31) 5 : Nat) : Int) * newton 10723151780598845931 6) = (unA y : Int) := by unfold unA; rw [IntKind.wrap_u64]; omega
theorem unB_is (y : Nat) : IntKind.u64.wrap (((uns y (2 ^ 27) 5 : Nat) : Int) * newton 13787848793156543929 6) = (unB y : Int) := by unfold unB; rw [IntKind.wrap_u64]; omega
theorem unA_lt (y : Nat) : unA y < 18446744073709551616 := by unfold unA; rw [IntKind.wrap_u64]; omega
theorem unB_lt (y : Nat) : unB y < 18446744073709551616 := by unfold unB; rw [IntKind.wrap_u64]; omega
/-- The way back. -/
def unmixN (y : Nat) : Nat := uns (unB (unA y)) (2 ^ 30) 5
theorem unmix_any (y : Nat) (hy : y < 18446744073709551616) (w : World) : Calls Try.prog 53 #[.int .u64 y] w fun e w' => e = .returned (.int .u64 (unmixN y)) ∧ w = w' := by
  have a1 := unA_lt y
  have b1 := unB_lt (unA y)
  go_enter Try.func53, Try.ntmps53
  go_wp2_with fail
  refine (unshift_31 y hy _).mono ?_
  rintro e w1 ⟨rfl, rfl⟩
  go_wp2_with fail
  refine (inverse_any _ _).mono ?_
  rintro e w1 ⟨rfl, rfl⟩
  go_wp2_with fail
  rw [unA_is]
  refine (unshift_27 _ a1 _).mono ?_
  rintro e w1 ⟨rfl, rfl⟩
  go_wp2_with fail
  refine (inverse_any _ _).mono ?_
  rintro e w1 ⟨rfl, rfl⟩
  go_wp2_with fail
  rw [unB_is]
  refine (unshift_30 _ b1 _).mono ?_
  rintro e w1 ⟨rfl, rfl⟩
  go_wp2_with fail
  go_ret
  exact ⟨rfl, rfl⟩
theorem runmix_any (y : Nat) (hy : y < 18446744073709551616) (w : World) : Calls Try.prog 54 #[.int .u64 y] w fun e w' => e = .returned (.int .u64 (unmixN y)) ∧ w = w' := by
  have a1 := unA_lt y
  have b1 := unB_lt (unA y)
  go_enter Try.func54, Try.ntmps54
  go_wp2_with fail
  refine (back_any 31 (by decide) y hy _).mono ?_
  rintro e w1 ⟨rfl, rfl⟩
  go_wp2_with fail
  refine (power_any 62 _ _ _ (by decide) (by decide) (by decide)).mono ?_
  rintro e w1 ⟨rfl, rfl⟩
  rw [back_is hy (by decide), ← inverse_two]
  go_wp2_with fail
  rw [unA_is]
  refine (back_any 27 (by decide) _ a1 _).mono ?_
  rintro e w1 ⟨rfl, rfl⟩
  go_wp2_with fail
  refine (power_any 62 _ _ _ (by decide) (by decide) (by decide)).mono ?_
  rintro e w1 ⟨rfl, rfl⟩
  rw [back_is a1 (by decide), ← inverse_one]
  go_wp2_with fail
  rw [unB_is]
  refine (back_any 30 (by decide) _ b1 _).mono ?_
  rintro e w1 ⟨rfl, rfl⟩
  rw [back_is b1 (by decide)]
  go_wp2_with fail
  go_ret
  exact ⟨rfl, rfl⟩
end Go.Proofs.Ytgejpinepkockaa
