/- Closed facts of the card TopCorridor. -/
import Derived.Test.YtmegplnmiepfbaaGreatDoorCards
import Derived.Test.YtmegplnmiepfbaaGreatDoorTie
import Derived.JoinedOf
namespace Go.Proofs.YtmegplnmiepfbaaGreatDoor.topCorridorRow
theorem e1 : Rows.topCorridorRow.wfByText (OpenSpec.ofChange Rows.topCorridorSpec) = true := by kernel_rfl
theorem e2 : Tryz.pinned.checked.prog.mainIs = some (true, "049970bab8c0bfe4f06ed97693ebac25b2e9871543ebb00ea789a9feb270e33d".toList) := by kernel_rfl
theorem e3 : Tryz.prog.funcNamed "herdsman/herdsmantop.TopCorridor" = some 3 := by kernel_rfl
theorem e4 : true = Tryz.pinned.checked.prog.looks [] := by kernel_rfl
theorem e6 : false = Rows.topCorridorRow.goesBy Tryz.pinned.checked.prog := by kernel_rfl
theorem w3 : Tryz.prog.wantsStandIn 3 = false := by kernel_rfl
theorem w4 : Tryz.prog.wantsStandIn 4 = false := by kernel_rfl
theorem w22 : Tryz.prog.wantsStandIn 22 = false := by kernel_rfl
end Go.Proofs.YtmegplnmiepfbaaGreatDoor.topCorridorRow
