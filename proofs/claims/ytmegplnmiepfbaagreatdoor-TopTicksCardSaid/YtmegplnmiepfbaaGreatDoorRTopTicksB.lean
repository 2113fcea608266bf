/- The row of TopTicks: closed facts of the program and the row. -/
import Derived.Test.YtmegplnmiepfbaaGreatDoorRows
import Derived.JoinedOf
namespace Go.Proofs.YtmegplnmiepfbaaGreatDoor.topTicksRow
theorem k11 : (Rows.topTicksRow.recurses == Tryz.prog.recurses 8) = true := by kernel_rfl
theorem k12 : (Rows.topTicksRow.named == Tryz.prog.varsNamed 8) = true := by kernel_rfl
theorem k13 : (Rows.topTicksRow.maps == (Tryz.f8.params.toList ++ Rows.topTicksSpec.plain.varTypes Tryz.prog).any (Tryz.prog.mapsRec ·)) = true := by kernel_rfl
theorem k14 : (Rows.topTicksRow.ifaces == (Tryz.f8.params.toList ++ Rows.topTicksSpec.plain.varTypes Tryz.prog).any (Tryz.prog.ifacesRec ·)) = true := by kernel_rfl
theorem k15 : (Rows.topTicksRow.mapsOut == Tryz.prog.mapsAmong Tryz.f8.resultTypes.toList) = true := by kernel_rfl
theorem k16 : (Rows.topTicksRow.loops == (Tryz.f8.params.toList ++ Rows.topTicksSpec.plain.varTypes Tryz.prog).any (Tryz.prog.loopsFrom ·)) = true := by kernel_rfl
theorem k17 : (Rows.topTicksRow.wideKeys == (Tryz.f8.params.toList ++ Rows.topTicksSpec.plain.varTypes Tryz.prog ++ Tryz.f8.resultTypes.toList).any (Tryz.prog.wideKeysFrom ·)) = true := by kernel_rfl
theorem k18 : Rows.topTicksSpec.vars.all (Tryz.prog.varReadable ·) = true := by kernel_rfl
theorem k19 : Tryz.f8.resultTypes.all (fun t => Tryz.prog.readableRec t && decide (t < Tryz.prog.types.size)) = true := by kernel_rfl
theorem k20 : (Rows.topTicksRow.ifacesOut == Tryz.f8.resultTypes.toList.any (Tryz.prog.ifacesRec ·)) = true := by kernel_rfl
theorem k21 : (Rows.topTicksRow.loopsOut == Tryz.f8.resultTypes.toList.any (Tryz.prog.loopsFrom ·)) = true := by kernel_rfl
theorem k22 : (Rows.topTicksRow.plainKeys == Tryz.prog.plainKeys) = true := by kernel_rfl
theorem k23 : Rows.topTicksRow.shortTexts.isNone = true := by kernel_rfl
end Go.Proofs.YtmegplnmiepfbaaGreatDoor.topTicksRow
