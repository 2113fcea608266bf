/- The row of TopCorridor: closed facts of the program and the row. -/
import Derived.Test.YtmegplnmiepfbaaGreatDoorRows
import Derived.JoinedOf
namespace Go.Proofs.YtmegplnmiepfbaaGreatDoor.topCorridorRow
theorem k24 : Tryz.prog.stopsHeard = true := by kernel_rfl
theorem k25 : Tryz.prog.mayEnter = true := by kernel_rfl
theorem k26 : (Rows.topCorridorRow.lifted == Tryz.prog.liftsFinal) = true := by kernel_rfl
theorem k27 : (Tryz.prog.make == some Rows.topCorridorRow.make) = true := by kernel_rfl
theorem k29 : (Rows.topCorridorRow.pinned == Rows.topCorridorRow.pinnedBy) = true := by kernel_rfl
theorem k30 : (Rows.topCorridorRow.veiled == (Tryz.f3.params.toList ++ Rows.topCorridorSpec.plain.varTypes Tryz.prog ++ Tryz.f3.resultTypes.toList).any (Tryz.prog.veiledRec ·)) = true := by kernel_rfl
theorem k31 : Rows.topCorridorRow.veiledFits Tryz.prog Tryz.f3.params.toList (Tryz.f3.params.toList ++ Rows.topCorridorSpec.plain.varTypes Tryz.prog ++ Tryz.f3.resultTypes.toList) = true := by kernel_rfl
end Go.Proofs.YtmegplnmiepfbaaGreatDoor.topCorridorRow
