/- Proves the parts of the claim that its last text joins: TopDeskJ1, TopDeskJ2, TopDeskJ3, TopDeskJ4. Conditions: those that each theorem names. -/
import Derived.Test.YtjpbjghdplbdcaaGreatDoorRows
import Derived.Test.YtjpbjghdplbdcaaGreatDoorChecked
import Derived.WalkKit
import Derived.Stop.Joined
section
namespace Go.Proofs.YtjpbjghdplbdcaaGreatDoor.topDesk
theorem told1 : (Rows.topDeskRow.inPlace == Tryz.prog.inPlace 4) = true := by kernel_rfl
end Go.Proofs.YtjpbjghdplbdcaaGreatDoor.topDesk
end
section
namespace Go.Proofs.YtjpbjghdplbdcaaGreatDoor.topDesk
theorem told2 : (Rows.topDeskRow.unfollowed == Tryz.prog.unfollowed 4) = true := by kernel_rfl
end Go.Proofs.YtjpbjghdplbdcaaGreatDoor.topDesk
end
section
namespace Go.Proofs.YtjpbjghdplbdcaaGreatDoor.topDesk
theorem told3 : (Rows.topDeskRow.named == Tryz.prog.varsNamed 4) = true := by kernel_rfl
end Go.Proofs.YtjpbjghdplbdcaaGreatDoor.topDesk
end
section
namespace Go.Proofs.YtjpbjghdplbdcaaGreatDoor.topDesk
theorem told4 : (Rows.topDeskRow.recurses == Tryz.prog.recurses 4) = true := by kernel_rfl
end Go.Proofs.YtjpbjghdplbdcaaGreatDoor.topDesk
end
