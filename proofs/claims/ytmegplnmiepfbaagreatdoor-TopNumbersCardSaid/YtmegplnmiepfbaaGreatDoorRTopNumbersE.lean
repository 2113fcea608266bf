/- Closed facts of the card TopNumbers. -/
import Derived.Test.YtmegplnmiepfbaaGreatDoorCards
import Derived.Test.YtmegplnmiepfbaaGreatDoorTie
import Derived.JoinedOf
namespace Go.Proofs.YtmegplnmiepfbaaGreatDoor.topNumbersRow
theorem e1 : Rows.topNumbersRow.wfByText (OpenSpec.ofChange Rows.topNumbersSpec) = true := by kernel_rfl
theorem e2 : Tryz.pinned.checked.prog.mainIs = some (true, "049970bab8c0bfe4f06ed97693ebac25b2e9871543ebb00ea789a9feb270e33d".toList) := by kernel_rfl
theorem e3 : Tryz.prog.funcNamed "herdsman/herdsmantop.TopNumbers" = some 7 := by kernel_rfl
theorem e4 : true = Tryz.pinned.checked.prog.looks [] := by kernel_rfl
theorem e6 : false = Rows.topNumbersRow.goesBy Tryz.pinned.checked.prog := by kernel_rfl
theorem w3 : Tryz.prog.wantsStandIn 3 = false := by kernel_rfl
theorem w22 : Tryz.prog.wantsStandIn 22 = false := by kernel_rfl
theorem w45 : Tryz.prog.wantsStandIn 45 = false := by kernel_rfl
end Go.Proofs.YtmegplnmiepfbaaGreatDoor.topNumbersRow
