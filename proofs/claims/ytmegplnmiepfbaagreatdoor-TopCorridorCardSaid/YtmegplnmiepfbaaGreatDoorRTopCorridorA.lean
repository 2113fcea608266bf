/- The row of TopCorridor: closed facts of the program and the row. -/
import Derived.Test.YtmegplnmiepfbaaGreatDoorRows
import Derived.JoinedOf
namespace Go.Proofs.YtmegplnmiepfbaaGreatDoor.topCorridorRow
theorem k0 : Rows.topCorridorRow.wf (OpenSpec.ofChange Rows.topCorridorSpec) = true := by kernel_rfl
theorem k1 : laidOutB Tryz.prog = true := by kernel_rfl
theorem k2 : mapsRowed Tryz.prog = true := by kernel_rfl
theorem k3 : Tryz.f3.params.all (Tryz.prog.readableRec ·) = true := by kernel_rfl
theorem k4 : namedTie Tryz.prog Rows.topCorridorRow.named Rows.topCorridorSpec.vars = true := by kernel_rfl
theorem k5 : (Rows.topCorridorRow.stops == []) = true := by kernel_rfl
theorem k6 : (Tryz.prog.stops == []) = true := by kernel_rfl
theorem k7 : (Rows.topCorridorRow.knobs == []) = true := by kernel_rfl
theorem k8 : (Tryz.prog.stopKnobs == []) = true := by kernel_rfl
theorem k9 : (Rows.topCorridorRow.inPlace == Tryz.prog.inPlace 3) = true := by kernel_rfl
theorem k10 : (Rows.topCorridorRow.unfollowed == Tryz.prog.unfollowed 3) = true := by kernel_rfl
end Go.Proofs.YtmegplnmiepfbaaGreatDoor.topCorridorRow
