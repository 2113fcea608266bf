/- The row of TopTwins: closed facts of the program and the row. -/
import Derived.Test.YtmegplnmiepfbaaGreatDoorRows
import Derived.JoinedOf
namespace Go.Proofs.YtmegplnmiepfbaaGreatDoor.topTwinsRow
theorem k0 : Rows.topTwinsRow.wf (OpenSpec.ofChange Rows.topTwinsSpec) = true := by kernel_rfl
theorem k1 : laidOutB Tryz.prog = true := by kernel_rfl
theorem k2 : mapsRowed Tryz.prog = true := by kernel_rfl
theorem k3 : Tryz.f9.params.all (Tryz.prog.readableRec ·) = true := by kernel_rfl
theorem k4 : namedTie Tryz.prog Rows.topTwinsRow.named Rows.topTwinsSpec.vars = true := by kernel_rfl
theorem k5 : (Rows.topTwinsRow.stops == []) = true := by kernel_rfl
theorem k6 : (Tryz.prog.stops == []) = true := by kernel_rfl
theorem k7 : (Rows.topTwinsRow.knobs == []) = true := by kernel_rfl
theorem k8 : (Tryz.prog.stopKnobs == []) = true := by kernel_rfl
theorem k9 : (Rows.topTwinsRow.inPlace == Tryz.prog.inPlace 9) = true := by kernel_rfl
theorem k10 : (Rows.topTwinsRow.unfollowed == Tryz.prog.unfollowed 9) = true := by kernel_rfl
end Go.Proofs.YtmegplnmiepfbaaGreatDoor.topTwinsRow
