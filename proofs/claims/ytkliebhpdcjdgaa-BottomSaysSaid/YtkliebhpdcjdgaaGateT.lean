/-
  hexa.Num, gate.Keep, gate.Level: the walks. No condition.
-/
import Derived.Test.YtkliebhpdcjdgaaWithin
import Derived.Test.YtkliebhpdcjdgaaEq
namespace Go.Proofs.Ytkliebhpdcjdgaa
open Go.RowKit

def isDraw (x : Int) : Bool := inR x 0 72057594037927935
theorem hnum_any (x : Int) (w : World) : Calls Try.prog 50 #[.int .i64 x] w fun e w' => e = .returned (.bool (isDraw x)) ∧ w = w' := by
  by_cases h1 : 0 ≤ x
  · by_cases h2 : x ≤ 72057594037927935
    · have E := hide (show isDraw x = true from inR_yes ⟨h1, h2⟩)
      go_enter Try.func50, Try.ntmps50
      go_wp2_with fail
      go_ret
      exact ⟨by rw [E.out]; first | rfl | (simp; omega), rfl⟩
    · have E := hide (show isDraw x = false from inR_no (x := x) (a := 0) (b := 72057594037927935) (by omega))
      go_enter Try.func50, Try.ntmps50
      go_wp2_with fail
      go_ret
      exact ⟨by rw [E.out]; first | rfl | (simp; omega), rfl⟩
  · have E := hide (show isDraw x = false from inR_no (x := x) (a := 0) (b := 72057594037927935) (by omega))
    go_enter Try.func50, Try.ntmps50
    go_wp2_with fail
    go_ret
    exact ⟨by rw [E.out]; first | rfl | (simp; omega), rfl⟩
theorem hnum_is {x : Int} {d : Bool} (h : isDraw x = d) (w : World) : Calls Try.prog 50 #[.int .i64 x] w fun e w' => e = .returned (.bool d) ∧ w = w' := by
  have k := hnum_any x w; rw [h] at k; exact k

theorem keep_bad {th r : Int} (h : isDraw th = false ∨ isDraw th = true ∧ isDraw r = false) (w : World) : Calls Try.prog 49 #[.int .i64 th, .int .i64 r] w fun e w' => e = .returned (.tuple #[.bool false, .int .i64 1]) ∧ w = w' := by
  rcases h with h | ⟨h, h2⟩
  · have H := hide h
    clear h
    go_enter Try.func49, Try.ntmps49
    go_wp2_with fail
    refine (hnum_is H.out _).mono ?_
    rintro e w' ⟨rfl, rfl⟩
    go_wp2_with fail
    go_ret2
    exact ⟨rfl, rfl⟩
  · have H := hide h
    have H2 := hide h2
    clear h h2
    go_enter Try.func49, Try.ntmps49
    go_wp2_with fail
    refine (hnum_is H.out _).mono ?_
    rintro e w' ⟨rfl, rfl⟩
    go_wp2_with fail
    refine (hnum_is H2.out _).mono ?_
    rintro e w' ⟨rfl, rfl⟩
    go_wp2_with fail
    go_ret2
    exact ⟨rfl, rfl⟩
theorem keep_ok {th r : Int} (h : isDraw th = true) (h2 : isDraw r = true) (w : World) : Calls Try.prog 49 #[.int .i64 th, .int .i64 r] w fun e w' => e = .returned (.tuple #[.bool (decide (th ≤ r)), .int .i64 0]) ∧ w = w' := by
  have H := hide h
  have H2 := hide h2
  clear h h2
  go_enter Try.func49, Try.ntmps49
  go_wp2_with fail
  refine (hnum_is H.out _).mono ?_
  rintro e w' ⟨rfl, rfl⟩
  go_wp2_with fail
  refine (hnum_is H2.out _).mono ?_
  rintro e w' ⟨rfl, rfl⟩
  go_wp2_with fail
  go_ret2
  exact ⟨rfl, rfl⟩

theorem glevel_bad {n : Int} (h : n < 0 ∨ ¬ n < 0 ∧ 20 < n) (w : World) : Calls Try.prog 47 #[.int .i64 n] w fun e w' => e = .returned (.tuple #[.int .i64 0, .int .i64 1]) ∧ w = w' := by
  rcases h with h | ⟨h, h2⟩
  all_goals
    go_enter Try.func47, Try.ntmps47
    go_wp2_with fail
    go_ret2
    exact ⟨rfl, rfl⟩
theorem glevel_ok {k D : Nat} (h : k ≤ 20) (hD : 72057594037927936 / 2 ^ k = D) (w : World) : Calls Try.prog 47 #[.int .i64 k] w fun e w' => e = .returned (.tuple #[.int .i64 (72057594037927936 - (D : Int)), .int .i64 0]) ∧ w = w' := by
  have eD : (72057594037927936 : Int) / 2 ^ k = (D : Int) := by rw [← hD, Int.natCast_ediv, Int.natCast_pow]; rfl
  have hDl : D ≤ 72057594037927936 := by rw [← hD]; exact Nat.div_le_self _ _
  have ms : min k 64 = k := by omega
  have h1 : ¬ (k : Int) < 0 := by omega
  have h2 : ¬ 20 < (k : Int) := by omega
  clear hD
  go_enter Try.func47, Try.ntmps47
  go_wp2_with fail
  go_ret2
  exact ⟨rfl, rfl⟩
end Go.Proofs.Ytkliebhpdcjdgaa
