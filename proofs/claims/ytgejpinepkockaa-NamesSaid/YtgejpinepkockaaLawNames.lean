/-
  The numeric values of errors and limits are as specified: the walk of the law. Conditions: none.
-/
import Derived.Test.YtgejpinepkockaaProg
import Derived.Test.YtgejpinepkockaaApp
import Derived.WalkKit
namespace Go.Proofs.Ytgejpinepkockaa
open Go.RowKit

set_option maxHeartbeats 800000 in
theorem law_names (w : World) : Calls Try.prog 3 #[] w fun e w' => e = .returned (.bool true) ∧ Below w.heap.size w w' := by
  go_enter Try.func3, Try.ntmps3
  go_wp2
  go_loop [6] (fun i => ∃ k : Nat, k ≤ 10 ∧ i = .int .i64 k) (fun i => 10 - (intOf i).toNat)
  case atStart => exact ⟨0, by omega, rfl⟩
  case round =>
    obtain ⟨k, hk, rfl⟩ := hrel
    by_cases hlt : k < 10
    · have hc : (w.alloc (.cells #[.int .i64 0, .int .i64 1, .int .i64 2, .int .i64 3, .int .i64 4, .int .i64 5, .int .i64 6, .int .i64 7, .int .i64 8, .int .i64 9] 22)).cell? ⟨w.heap.size, k, none⟩ = some (.int .i64 k) := by
        rw [cell_of_row _ _ _ _ _ (0, 0) (heap_alloc_new w _)]
        match k, hlt with
        | 0, _ | 1, _ | 2, _ | 3, _ | 4, _ | 5, _ | 6, _ | 7, _ | 8, _ | 9, _ => rfl
      go_wp2
      go_round
      case rel => exact ⟨k + 1, by omega, by go_num⟩
      case measure => simp [intOf]; omega
    · go_wp2
      go_ret
      exact ⟨rfl, below_alloc (Below.refl _ _) _⟩
end Go.Proofs.Ytgejpinepkockaa
