/-
  strings.HasPrefix: the walk. No condition.
-/
import Derived.Test.YtfopihlbdceepaaProg
import Derived.Test.YtfopihlbdceepaaGen
import Derived.Test.YtfopihlbdceepaaBoardQ
import Derived.Test.YtfopihlbdceepaaMem
import Derived.WalkKit
import Derived.WalkSpells
import Derived.Laws.Cover1
import Derived.Laws.Strings
namespace Go.Proofs.Ytfopihlbdceepaa
open Go.RowKit

set_option maxHeartbeats 800000 in
theorem hpre_any (s p : ByteArray) (w : World) : Calls Try.prog 27 #[.string s, .string p] w fun e w' => e = .returned (.bool (hasPre s p)) ∧ w = w' := by
  have HI : ∀ w, Calls Try.prog 53 #[.string s, .string p] w fun e w' => e = .returned (.bool (hasPre s p)) ∧ w = w' := by
    intro w
    by_cases h : p.size ≤ s.size
    · have HE := hide (show hasPre s p = ((s.extract 0 p.size).toList == p.toList) by unfold hasPre; rw [decide_eq_true h, Bool.true_and])
      go_enter Try.func53, Try.ntmps53
      go_wp2_with fail
      rw [HE.out]
      go_ret
      exact ⟨rfl, rfl⟩
    · have HE := hide (show hasPre s p = false by unfold hasPre; rw [decide_eq_false h, Bool.false_and])
      go_enter Try.func53, Try.ntmps53
      go_wp2_with fail
      rw [HE.out]
      go_ret
      exact ⟨rfl, rfl⟩
  go_enter Try.func27, Try.ntmps27
  go_wp2_with fail
  refine (HI w).mono ?_
  rintro e w1 ⟨rfl, rfl⟩
  go_wp2_with fail
  go_ret
  exact ⟨rfl, rfl⟩
end Go.Proofs.Ytfopihlbdceepaa
