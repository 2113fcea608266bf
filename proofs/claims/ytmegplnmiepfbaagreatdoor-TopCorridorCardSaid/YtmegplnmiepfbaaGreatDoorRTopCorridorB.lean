/- The row of TopCorridor: closed facts of the program and the row. -/
import Derived.Test.YtmegplnmiepfbaaGreatDoorRows
import Derived.JoinedOf
namespace Go.Proofs.YtmegplnmiepfbaaGreatDoor.topCorridorRow
theorem k11 : (Rows.topCorridorRow.recurses == Tryz.prog.recurses 3) = true := by kernel_rfl
theorem k12 : (Rows.topCorridorRow.named == Tryz.prog.varsNamed 3) = true := by kernel_rfl
theorem k13 : (Rows.topCorridorRow.maps == (Tryz.f3.params.toList ++ Rows.topCorridorSpec.plain.varTypes Tryz.prog).any (Tryz.prog.mapsRec ·)) = true := by kernel_rfl
theorem k14 : (Rows.topCorridorRow.ifaces == (Tryz.f3.params.toList ++ Rows.topCorridorSpec.plain.varTypes Tryz.prog).any (Tryz.prog.ifacesRec ·)) = true := by kernel_rfl
theorem k15 : (Rows.topCorridorRow.mapsOut == Tryz.prog.mapsAmong Tryz.f3.resultTypes.toList) = true := by kernel_rfl
theorem k16 : (Rows.topCorridorRow.loops == (Tryz.f3.params.toList ++ Rows.topCorridorSpec.plain.varTypes Tryz.prog).any (Tryz.prog.loopsFrom ·)) = true := by kernel_rfl
theorem k17 : (Rows.topCorridorRow.wideKeys == (Tryz.f3.params.toList ++ Rows.topCorridorSpec.plain.varTypes Tryz.prog ++ Tryz.f3.resultTypes.toList).any (Tryz.prog.wideKeysFrom ·)) = true := by kernel_rfl
theorem k18 : Rows.topCorridorSpec.vars.all (Tryz.prog.varReadable ·) = true := by kernel_rfl
theorem k19 : Tryz.f3.resultTypes.all (fun t => Tryz.prog.readableRec t && decide (t < Tryz.prog.types.size)) = true := by kernel_rfl
theorem k20 : (Rows.topCorridorRow.ifacesOut == Tryz.f3.resultTypes.toList.any (Tryz.prog.ifacesRec ·)) = true := by kernel_rfl
theorem k21 : (Rows.topCorridorRow.loopsOut == Tryz.f3.resultTypes.toList.any (Tryz.prog.loopsFrom ·)) = true := by kernel_rfl
theorem k22 : (Rows.topCorridorRow.plainKeys == Tryz.prog.plainKeys) = true := by kernel_rfl
theorem k23 : Rows.topCorridorRow.shortTexts.isNone = true := by kernel_rfl
end Go.Proofs.YtmegplnmiepfbaaGreatDoor.topCorridorRow
