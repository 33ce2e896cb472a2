/-
  Is a number one that may be counted? The walk of the reference's test. No condition.
-/
import Derived.Test.YtjmkejindmgckaaWithin
namespace Go.Proofs.Ytjmkejindmgckaa
open Go.RowKit

theorem count_any (x : Int) (w : World) : Calls Try.prog 46 #[.int .i64 x] w fun e w' => e = .returned (.bool (inR x 0 1000000000000)) ∧ w = w' := by
  go_enter Try.func46, Try.ntmps46
  go_wp2_with fail
  refine (within_any _ _ _ _).mono ?_
  rintro e w' ⟨rfl, rfl⟩
  go_wp2_with fail
  go_ret
  exact ⟨rfl, rfl⟩
end Go.Proofs.Ytjmkejindmgckaa
