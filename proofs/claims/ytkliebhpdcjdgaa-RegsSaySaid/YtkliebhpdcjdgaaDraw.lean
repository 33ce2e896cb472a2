/-
  May a number be drawn? The walk of the reference's test. No condition.
-/
import Derived.Test.YtkliebhpdcjdgaaWithin
namespace Go.Proofs.Ytkliebhpdcjdgaa
open Go.RowKit

theorem draw_any (x : Int) (w : World) : Calls Try.prog 13 #[.int .i64 x] w fun e w' => e = .returned (.bool (inR x 0 72057594037927935)) ∧ w = w' := by
  go_enter Try.func13, Try.ntmps13
  go_wp2_with fail
  refine (within_any _ _ _ _).mono ?_
  rintro e w' ⟨rfl, rfl⟩
  go_wp2_with fail
  go_ret
  exact ⟨rfl, rfl⟩
end Go.Proofs.Ytkliebhpdcjdgaa
