/- The row of TopFirst: closed facts of the program and the row. -/
import Derived.Test.YtmegplnmiepfbaaGreatDoorRows
import Derived.JoinedOf
namespace Go.Proofs.YtmegplnmiepfbaaGreatDoor.topFirstRow
theorem k0 : Rows.topFirstRow.wf (OpenSpec.ofChange Rows.topFirstSpec) = true := by kernel_rfl
theorem k1 : laidOutB Tryz.prog = true := by kernel_rfl
theorem k2 : mapsRowed Tryz.prog = true := by kernel_rfl
theorem k3 : Tryz.f6.params.all (Tryz.prog.readableRec ·) = true := by kernel_rfl
theorem k4 : namedTie Tryz.prog Rows.topFirstRow.named Rows.topFirstSpec.vars = true := by kernel_rfl
theorem k5 : (Rows.topFirstRow.stops == []) = true := by kernel_rfl
theorem k6 : (Tryz.prog.stops == []) = true := by kernel_rfl
theorem k7 : (Rows.topFirstRow.knobs == []) = true := by kernel_rfl
theorem k8 : (Tryz.prog.stopKnobs == []) = true := by kernel_rfl
theorem k9 : (Rows.topFirstRow.inPlace == Tryz.prog.inPlace 6) = true := by kernel_rfl
theorem k10 : (Rows.topFirstRow.unfollowed == Tryz.prog.unfollowed 6) = true := by kernel_rfl
end Go.Proofs.YtmegplnmiepfbaaGreatDoor.topFirstRow
