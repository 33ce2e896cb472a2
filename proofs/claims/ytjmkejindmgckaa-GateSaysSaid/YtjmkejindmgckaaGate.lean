/-
  gate: Keep, Level, Part, Count: the walks. No condition.
-/
import Derived.Test.YtjmkejindmgckaaDiv64
import Derived.Test.YtjmkejindmgckaaGateP
import Derived.Test.YtjmkejindmgckaaWithin
namespace Go.Proofs.Ytjmkejindmgckaa
open Go.RowKit Go.Shelf

def laysMul64_ren : Go.Shelf.Ren := ⟨fun | 264 => 85 | n => n, fun | 53 => 90 | 46 => 91 | n => n, fun | n => n⟩
theorem laysMul64 : Go.Proofs.Lays.n264 Try.prog laysMul64_ren := {
  mixed := by kernel_rfl
  f264 := Try.func85.trans (congrArg some (by kernel_rfl))
  t46 := Try.underlying91
  a46 := Try.isAgg91
  z46 := Try.sizeOf91
  v46 := Try.zeroValue91
  t53 := Try.underlying90
  a53 := Try.isAgg90
  z53 := Try.sizeOf90
  v53 := Try.zeroValue90 }
theorem mul64 {x y N : Nat} (hN : x * y = N) (hx : x < 18446744073709551616) (hy : y < 18446744073709551616) (w : World) : Calls Try.prog 85 #[.int .u64 x, .int .u64 y] w fun e w' => e = .returned (.tuple #[.int .u64 (N / 18446744073709551616 : Nat), .int .u64 (N % 18446744073709551616 : Nat)]) ∧ w = w' := by
  refine (Any.bits_Mul64 laysMul64 x y hx hy w).mono ?_
  rintro e w' ⟨rfl, rfl⟩
  rw [hN]
  exact ⟨rfl, rfl⟩
theorem div64 {hi lo y N : Nat} (hN : hi * 18446744073709551616 + lo = N) (h1 : hi < y) (h2 : y < 18446744073709551616) (h3 : lo < 18446744073709551616) (w : World) {A B : Nat} (hA : N / y = A) (hB : N % y = B) :
    Calls Try.prog 86 #[.int .u64 hi, .int .u64 lo, .int .u64 y] w fun e w' => e = .returned (.tuple #[.int .u64 A, .int .u64 B]) ∧ ∃ q, w' = w.drewN q := by
  subst hN
  subst hA
  subst hB
  rcases Nat.eq_zero_or_pos hi with h0 | h0
  · subst h0
    rw [Nat.zero_mul, Nat.zero_add]
    exact div64_low (by omega) h2 h3 w
  · have hl := Any.bitLen_le64 (y : Int) (by omega) (by omega)
    rw [Int.toNat_natCast] at hl
    refine (div64_high (s := 64 - Lib.bitLen y) h0 h1 h2 h3 (by omega) w).mono ?_
    rintro e w' ⟨rfl, rfl⟩
    exact ⟨rfl, 0, rfl⟩

def isDraw (x : Int) : Bool := inR x 0 72057594037927935
theorem hnum_any (x : Int) (w : World) : Calls Try.prog 84 #[.int .i64 x] w fun e w' => e = .returned (.bool (isDraw x)) ∧ w = w' := by
  by_cases h1 : 0 ≤ x
  · by_cases h2 : x ≤ 72057594037927935
    · have E := hide (show isDraw x = true from inR_yes ⟨h1, h2⟩)
      go_enter Try.func84, Try.ntmps84
      go_wp2_with fail
      go_ret
      exact ⟨by rw [E.out]; first | rfl | (simp; omega), rfl⟩
    · have E := hide (show isDraw x = false from inR_no (x := x) (a := 0) (b := 72057594037927935) (by omega))
      go_enter Try.func84, Try.ntmps84
      go_wp2_with fail
      go_ret
      exact ⟨by rw [E.out]; first | rfl | (simp; omega), rfl⟩
  · have E := hide (show isDraw x = false from inR_no (x := x) (a := 0) (b := 72057594037927935) (by omega))
    go_enter Try.func84, Try.ntmps84
    go_wp2_with fail
    go_ret
    exact ⟨by rw [E.out]; first | rfl | (simp; omega), rfl⟩
theorem draw_any (x : Int) (w : World) : Calls Try.prog 54 #[.int .i64 x] w fun e w' => e = .returned (.bool (isDraw x)) ∧ w = w' := by
  go_enter Try.func54, Try.ntmps54
  go_wp2_with fail
  refine (within_any _ _ _ _).mono ?_
  rintro e w' ⟨rfl, rfl⟩
  go_wp2_with fail
  go_ret
  exact ⟨rfl, rfl⟩
theorem draw_is {x : Int} {d : Bool} (h : isDraw x = d) (w : World) : Calls Try.prog 54 #[.int .i64 x] w fun e w' => e = .returned (.bool d) ∧ w = w' := by
  have k := draw_any x w; rw [h] at k; exact k
theorem hnum_is {x : Int} {d : Bool} (h : isDraw x = d) (w : World) : Calls Try.prog 84 #[.int .i64 x] w fun e w' => e = .returned (.bool d) ∧ w = w' := by
  have k := hnum_any x w; rw [h] at k; exact k

theorem keep_bad {th r : Int} (h : isDraw th = false ∨ isDraw th = true ∧ isDraw r = false) (w : World) : Calls Try.prog 50 #[.int .i64 th, .int .i64 r] w fun e w' => e = .returned (.tuple #[.bool false, .int .i64 1]) ∧ w = w' := by
  rcases h with h | ⟨h, h2⟩
  · have H := hide h
    clear h
    go_enter Try.func50, Try.ntmps50
    go_wp2_with fail
    refine (hnum_is H.out _).mono ?_
    rintro e w' ⟨rfl, rfl⟩
    go_wp2_with fail
    go_ret2
    exact ⟨rfl, rfl⟩
  · have H := hide h
    have H2 := hide h2
    clear h h2
    go_enter Try.func50, Try.ntmps50
    go_wp2_with fail
    refine (hnum_is H.out _).mono ?_
    rintro e w' ⟨rfl, rfl⟩
    go_wp2_with fail
    refine (hnum_is H2.out _).mono ?_
    rintro e w' ⟨rfl, rfl⟩
    go_wp2_with fail
    go_ret2
    exact ⟨rfl, rfl⟩
theorem keep_ok {th r : Int} (h : isDraw th = true) (h2 : isDraw r = true) (w : World) : Calls Try.prog 50 #[.int .i64 th, .int .i64 r] w fun e w' => e = .returned (.tuple #[.bool (decide (th ≤ r)), .int .i64 0]) ∧ w = w' := by
  have H := hide h
  have H2 := hide h2
  clear h h2
  go_enter Try.func50, Try.ntmps50
  go_wp2_with fail
  refine (hnum_is H.out _).mono ?_
  rintro e w' ⟨rfl, rfl⟩
  go_wp2_with fail
  refine (hnum_is H2.out _).mono ?_
  rintro e w' ⟨rfl, rfl⟩
  go_wp2_with fail
  go_ret2
  exact ⟨rfl, rfl⟩

theorem level_bad {n : Int} (h : n < 0 ∨ ¬ n < 0 ∧ 20 < n) (w : World) : Calls Try.prog 51 #[.int .i64 n] w fun e w' => e = .returned (.tuple #[.int .i64 0, .int .i64 1]) ∧ w = w' := by
  rcases h with h | ⟨h, h2⟩
  all_goals
    go_enter Try.func51, Try.ntmps51
    go_wp2_with fail
    go_ret2
    exact ⟨rfl, rfl⟩
theorem level_ok {k D : Nat} (h : k ≤ 20) (hD : 72057594037927936 / 2 ^ k = D) (w : World) : Calls Try.prog 51 #[.int .i64 k] w fun e w' => e = .returned (.tuple #[.int .i64 (72057594037927936 - (D : Int)), .int .i64 0]) ∧ w = w' := by
  have eD : (72057594037927936 : Int) / 2 ^ k = (D : Int) := by rw [← hD, Int.natCast_ediv, Int.natCast_pow]; rfl
  have hDl : D ≤ 72057594037927936 := by rw [← hD]; exact Nat.div_le_self _ _
  have ms : min k 64 = k := by omega
  have h1 : ¬ (k : Int) < 0 := by omega
  have h2 : ¬ 20 < (k : Int) := by omega
  clear hD
  go_enter Try.func51, Try.ntmps51
  go_wp2_with fail
  go_ret2
  exact ⟨rfl, rfl⟩
end Go.Proofs.Ytjmkejindmgckaa
