/-
  cullender/cultop.TopDesk: the statement 'TopDeskCardSaid'. Conditions: none beyond the form's own.
-/
import Derived.Test.YtjpbjghdplbdcaaGreatDoorRows
import Derived.Test.YtjpbjghdplbdcaaGreatDoorCards
import Derived.Test.YtjpbjghdplbdcaaGreatDoorTie
import Derived.Test.YtjpbjghdplbdcaaGreatDoorM01
import Derived.Test.YtjpbjghdplbdcaaGreatDoorM50
import Derived.WalkKit
import Derived.ProofKit
import Derived.OpenShut
import Derived.LaidMore
import Derived.Lay
import Derived.SevenTiedAt
import Derived.Stop.Joined
import Derived.Deep.DeepHandedRow
namespace Go.Proofs.YtjpbjghdplbdcaaGreatDoor.topDesk
open Go.ChangeShapes Go.WideShapes Go.ChangeAt Go.RowKit
open Go.ChangeMaps (open_string shut_string)
open Go.Joins
set_option linter.unusedVariables false
theorem proved : Rows.TopDeskCardSaid :=
  Claim7.holds_tied_plain_at .later [] [.data, .data, .data, .data, .sentinel, .sentinel, .pinned] true (true, "03d496fd367205ebe3a8358a9cd06d9b7bc02ba8f47ebf885e0bd33013fb2555") true over (fun _ h => by cases h) (by kernel_rfl) (fun _ h => by cases h) topDesk_row_tie rfl ⟨rfl, rfl⟩ (by kernel_rfl) rfl
    (fun f fn hf hfn => by
      obtain rfl : f = 4 := Option.some.inj ((show Tryz.prog.funcNamed "cullender/cultop.TopDesk" = some 4 by kernel_rfl).symm.trans hf) |>.symm
      obtain rfl : fn = Tryz.f4 := (Option.some.inj (Tryz.func4.symm.trans hfn)).symm
      exact ⟨by kernel_rfl, fun j t ht => by
        rw [Tryz.params4] at ht
        have hm : t ∈ [3] := by simpa using Array.mem_of_getElem? ht
        have hall : ([3].all fun u => !Tryz.prog.wantsStandIn u) = true := by kernel_rfl
        exact (show Tryz.prog.wantsStandIn t = false by simpa using List.all_eq_true.1 hall t hm)⟩)
    (by kernel_rfl)
end Go.Proofs.YtjpbjghdplbdcaaGreatDoor.topDesk
