/- Proves the parts of the claim that its last text joins: TopDeskB. Conditions: those that each theorem names. -/
import Derived.Test.YtjpbjghdplbdcaaGreatDoorRows
import Derived.Test.YtjpbjghdplbdcaaGreatDoorCards
import Derived.Test.YtjpbjghdplbdcaaGreatDoorTie
import Derived.Test.YtjpbjghdplbdcaaGreatDoorM01
import Derived.Test.YtjpbjghdplbdcaaGreatDoorM48
import Derived.Test.YtjpbjghdplbdcaaGreatDoorM49
import Derived.WalkKit
import Derived.ProofKit
import Derived.OpenShut
import Derived.LaidMore
import Derived.Lay
import Derived.SevenTiedAt
import Derived.Stop.Joined
import Derived.Deep.DeepHandedRow
section
namespace Go.Proofs.YtjpbjghdplbdcaaGreatDoor.topDesk
open Go.ChangeShapes Go.WideShapes Go.ChangeAt Go.RowKit
open Go.ChangeMaps (open_string shut_string)
open Go.Joins
set_option linter.unusedVariables false
theorem closed : joinedFacts Tryz.prog 4 Tryz.f4 (OpenSpec.ofChange Rows.topDeskSpec).bare Rows.topDeskRow = true := by
  unfold joinedFacts
  rw [told1, told2, told3, told4]
  kernel_rfl
theorem over : Rows.TopDeskSaid :=
  OpenClaim.holds_of_cond 4 Tryz.f4 rfl rfl rfl rfl rfl rfl rfl ⟨rfl, rfl, rfl, rfl, rfl⟩ rfl rfl rfl rfl rfl (by kernel_rfl) Tryz.func4 closed
    (of_decide_eq_true (by kernel_rfl)) (by unfold Func.isWrapper; first | (rw [if_pos (by decide +kernel)]; kernel_rfl) | (rw [if_neg (by decide +kernel)]; exact ⟨rfl, rfl⟩))
    (fun os started H enc _ I => by rw [OpenClaim.pre_eq_preRow]; exact lifted os started H enc I)
end Go.Proofs.YtjpbjghdplbdcaaGreatDoor.topDesk
end
