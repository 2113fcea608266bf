/- The row of TopNumbers: closed facts of the program and the row. -/
import Derived.Test.YtmegplnmiepfbaaGreatDoorRows
import Derived.JoinedOf
namespace Go.Proofs.YtmegplnmiepfbaaGreatDoor.topNumbersRow
theorem k0 : Rows.topNumbersRow.wf (OpenSpec.ofChange Rows.topNumbersSpec) = true := by kernel_rfl
theorem k1 : laidOutB Tryz.prog = true := by kernel_rfl
theorem k2 : mapsRowed Tryz.prog = true := by kernel_rfl
theorem k3 : Tryz.f7.params.all (Tryz.prog.readableRec ·) = true := by kernel_rfl
theorem k4 : namedTie Tryz.prog Rows.topNumbersRow.named Rows.topNumbersSpec.vars = true := by kernel_rfl
theorem k5 : (Rows.topNumbersRow.stops == []) = true := by kernel_rfl
theorem k6 : (Tryz.prog.stops == []) = true := by kernel_rfl
theorem k7 : (Rows.topNumbersRow.knobs == []) = true := by kernel_rfl
theorem k8 : (Tryz.prog.stopKnobs == []) = true := by kernel_rfl
theorem k9 : (Rows.topNumbersRow.inPlace == Tryz.prog.inPlace 7) = true := by kernel_rfl
theorem k10 : (Rows.topNumbersRow.unfollowed == Tryz.prog.unfollowed 7) = true := by kernel_rfl
end Go.Proofs.YtmegplnmiepfbaaGreatDoor.topNumbersRow
