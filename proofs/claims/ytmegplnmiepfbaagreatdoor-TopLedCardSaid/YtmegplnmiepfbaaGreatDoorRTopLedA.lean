/- The row of TopLed: closed facts of the program and the row. -/
import Derived.Test.YtmegplnmiepfbaaGreatDoorRows
import Derived.JoinedOf
namespace Go.Proofs.YtmegplnmiepfbaaGreatDoor.topLedRow
theorem k0 : Rows.topLedRow.wf (OpenSpec.ofChange Rows.topLedSpec) = true := by kernel_rfl
theorem k1 : laidOutB Tryz.prog = true := by kernel_rfl
theorem k2 : mapsRowed Tryz.prog = true := by kernel_rfl
theorem k3 : Tryz.f5.params.all (Tryz.prog.readableRec ·) = true := by kernel_rfl
theorem k4 : namedTie Tryz.prog Rows.topLedRow.named Rows.topLedSpec.vars = true := by kernel_rfl
theorem k5 : (Rows.topLedRow.stops == []) = true := by kernel_rfl
theorem k6 : (Tryz.prog.stops == []) = true := by kernel_rfl
theorem k7 : (Rows.topLedRow.knobs == []) = true := by kernel_rfl
theorem k8 : (Tryz.prog.stopKnobs == []) = true := by kernel_rfl
theorem k9 : (Rows.topLedRow.inPlace == Tryz.prog.inPlace 5) = true := by kernel_rfl
theorem k10 : (Rows.topLedRow.unfollowed == Tryz.prog.unfollowed 5) = true := by kernel_rfl
end Go.Proofs.YtmegplnmiepfbaaGreatDoor.topLedRow
