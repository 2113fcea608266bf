/- The row of TopIds: closed facts of the program and the row. -/
import Derived.Test.YtmegplnmiepfbaaGreatDoorRows
import Derived.JoinedOf
namespace Go.Proofs.YtmegplnmiepfbaaGreatDoor.topIdsRow
theorem k11 : (Rows.topIdsRow.recurses == Tryz.prog.recurses 4) = true := by kernel_rfl
theorem k12 : (Rows.topIdsRow.named == Tryz.prog.varsNamed 4) = true := by kernel_rfl
theorem k13 : (Rows.topIdsRow.maps == (Tryz.f4.params.toList ++ Rows.topIdsSpec.plain.varTypes Tryz.prog).any (Tryz.prog.mapsRec ·)) = true := by kernel_rfl
theorem k14 : (Rows.topIdsRow.ifaces == (Tryz.f4.params.toList ++ Rows.topIdsSpec.plain.varTypes Tryz.prog).any (Tryz.prog.ifacesRec ·)) = true := by kernel_rfl
theorem k15 : (Rows.topIdsRow.mapsOut == Tryz.prog.mapsAmong Tryz.f4.resultTypes.toList) = true := by kernel_rfl
theorem k16 : (Rows.topIdsRow.loops == (Tryz.f4.params.toList ++ Rows.topIdsSpec.plain.varTypes Tryz.prog).any (Tryz.prog.loopsFrom ·)) = true := by kernel_rfl
theorem k17 : (Rows.topIdsRow.wideKeys == (Tryz.f4.params.toList ++ Rows.topIdsSpec.plain.varTypes Tryz.prog ++ Tryz.f4.resultTypes.toList).any (Tryz.prog.wideKeysFrom ·)) = true := by kernel_rfl
theorem k18 : Rows.topIdsSpec.vars.all (Tryz.prog.varReadable ·) = true := by kernel_rfl
theorem k19 : Tryz.f4.resultTypes.all (fun t => Tryz.prog.readableRec t && decide (t < Tryz.prog.types.size)) = true := by kernel_rfl
theorem k20 : (Rows.topIdsRow.ifacesOut == Tryz.f4.resultTypes.toList.any (Tryz.prog.ifacesRec ·)) = true := by kernel_rfl
theorem k21 : (Rows.topIdsRow.loopsOut == Tryz.f4.resultTypes.toList.any (Tryz.prog.loopsFrom ·)) = true := by kernel_rfl
theorem k22 : (Rows.topIdsRow.plainKeys == Tryz.prog.plainKeys) = true := by kernel_rfl
theorem k23 : Rows.topIdsRow.shortTexts.isNone = true := by kernel_rfl
end Go.Proofs.YtmegplnmiepfbaaGreatDoor.topIdsRow
