/- The row of TopNumbers: closed facts of the program and the row. -/
import Derived.Test.YtmegplnmiepfbaaGreatDoorRows
import Derived.JoinedOf
namespace Go.Proofs.YtmegplnmiepfbaaGreatDoor.topNumbersRow
theorem k24 : Tryz.prog.stopsHeard = true := by kernel_rfl
theorem k25 : Tryz.prog.mayEnter = true := by kernel_rfl
theorem k26 : (Rows.topNumbersRow.lifted == Tryz.prog.liftsFinal) = true := by kernel_rfl
theorem k27 : (Tryz.prog.make == some Rows.topNumbersRow.make) = true := by kernel_rfl
theorem k29 : (Rows.topNumbersRow.pinned == Rows.topNumbersRow.pinnedBy) = true := by kernel_rfl
theorem k30 : (Rows.topNumbersRow.veiled == (Tryz.f7.params.toList ++ Rows.topNumbersSpec.plain.varTypes Tryz.prog ++ Tryz.f7.resultTypes.toList).any (Tryz.prog.veiledRec ·)) = true := by kernel_rfl
theorem k31 : Rows.topNumbersRow.veiledFits Tryz.prog Tryz.f7.params.toList (Tryz.f7.params.toList ++ Rows.topNumbersSpec.plain.varTypes Tryz.prog ++ Tryz.f7.resultTypes.toList) = true := by kernel_rfl
end Go.Proofs.YtmegplnmiepfbaaGreatDoor.topNumbersRow
