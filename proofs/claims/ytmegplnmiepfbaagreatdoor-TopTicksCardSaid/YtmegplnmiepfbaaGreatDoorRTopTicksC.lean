/- The row of TopTicks: closed facts of the program and the row. -/
import Derived.Test.YtmegplnmiepfbaaGreatDoorRows
import Derived.JoinedOf
namespace Go.Proofs.YtmegplnmiepfbaaGreatDoor.topTicksRow
theorem k24 : Tryz.prog.stopsHeard = true := by kernel_rfl
theorem k25 : Tryz.prog.mayEnter = true := by kernel_rfl
theorem k26 : (Rows.topTicksRow.lifted == Tryz.prog.liftsFinal) = true := by kernel_rfl
theorem k27 : (Tryz.prog.make == some Rows.topTicksRow.make) = true := by kernel_rfl
theorem k29 : (Rows.topTicksRow.pinned == Rows.topTicksRow.pinnedBy) = true := by kernel_rfl
theorem k30 : (Rows.topTicksRow.veiled == (Tryz.f8.params.toList ++ Rows.topTicksSpec.plain.varTypes Tryz.prog ++ Tryz.f8.resultTypes.toList).any (Tryz.prog.veiledRec ·)) = true := by kernel_rfl
theorem k31 : Rows.topTicksRow.veiledFits Tryz.prog Tryz.f8.params.toList (Tryz.f8.params.toList ++ Rows.topTicksSpec.plain.varTypes Tryz.prog ++ Tryz.f8.resultTypes.toList) = true := by kernel_rfl
end Go.Proofs.YtmegplnmiepfbaaGreatDoor.topTicksRow
