/- The row of TopTicks: closed facts of the program and the row. -/
import Derived.Test.YtmegplnmiepfbaaGreatDoorRows
import Derived.JoinedOf
namespace Go.Proofs.YtmegplnmiepfbaaGreatDoor.topTicksRow
theorem k0 : Rows.topTicksRow.wf (OpenSpec.ofChange Rows.topTicksSpec) = true := by kernel_rfl
theorem k1 : laidOutB Tryz.prog = true := by kernel_rfl
theorem k2 : mapsRowed Tryz.prog = true := by kernel_rfl
theorem k3 : Tryz.f8.params.all (Tryz.prog.readableRec ·) = true := by kernel_rfl
theorem k4 : namedTie Tryz.prog Rows.topTicksRow.named Rows.topTicksSpec.vars = true := by kernel_rfl
theorem k5 : (Rows.topTicksRow.stops == []) = true := by kernel_rfl
theorem k6 : (Tryz.prog.stops == []) = true := by kernel_rfl
theorem k7 : (Rows.topTicksRow.knobs == []) = true := by kernel_rfl
theorem k8 : (Tryz.prog.stopKnobs == []) = true := by kernel_rfl
theorem k9 : (Rows.topTicksRow.inPlace == Tryz.prog.inPlace 8) = true := by kernel_rfl
theorem k10 : (Rows.topTicksRow.unfollowed == Tryz.prog.unfollowed 8) = true := by kernel_rfl
end Go.Proofs.YtmegplnmiepfbaaGreatDoor.topTicksRow
