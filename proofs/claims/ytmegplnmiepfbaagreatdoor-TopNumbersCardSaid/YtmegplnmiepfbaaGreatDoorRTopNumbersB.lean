/- The row of TopNumbers: closed facts of the program and the row. -/
import Derived.Test.YtmegplnmiepfbaaGreatDoorRows
import Derived.JoinedOf
namespace Go.Proofs.YtmegplnmiepfbaaGreatDoor.topNumbersRow
theorem k11 : (Rows.topNumbersRow.recurses == Tryz.prog.recurses 7) = true := by kernel_rfl
theorem k12 : (Rows.topNumbersRow.named == Tryz.prog.varsNamed 7) = true := by kernel_rfl
theorem k13 : (Rows.topNumbersRow.maps == (Tryz.f7.params.toList ++ Rows.topNumbersSpec.plain.varTypes Tryz.prog).any (Tryz.prog.mapsRec ·)) = true := by kernel_rfl
theorem k14 : (Rows.topNumbersRow.ifaces == (Tryz.f7.params.toList ++ Rows.topNumbersSpec.plain.varTypes Tryz.prog).any (Tryz.prog.ifacesRec ·)) = true := by kernel_rfl
theorem k15 : (Rows.topNumbersRow.mapsOut == Tryz.prog.mapsAmong Tryz.f7.resultTypes.toList) = true := by kernel_rfl
theorem k16 : (Rows.topNumbersRow.loops == (Tryz.f7.params.toList ++ Rows.topNumbersSpec.plain.varTypes Tryz.prog).any (Tryz.prog.loopsFrom ·)) = true := by kernel_rfl
theorem k17 : (Rows.topNumbersRow.wideKeys == (Tryz.f7.params.toList ++ Rows.topNumbersSpec.plain.varTypes Tryz.prog ++ Tryz.f7.resultTypes.toList).any (Tryz.prog.wideKeysFrom ·)) = true := by kernel_rfl
theorem k18 : Rows.topNumbersSpec.vars.all (Tryz.prog.varReadable ·) = true := by kernel_rfl
theorem k19 : Tryz.f7.resultTypes.all (fun t => Tryz.prog.readableRec t && decide (t < Tryz.prog.types.size)) = true := by kernel_rfl
theorem k20 : (Rows.topNumbersRow.ifacesOut == Tryz.f7.resultTypes.toList.any (Tryz.prog.ifacesRec ·)) = true := by kernel_rfl
theorem k21 : (Rows.topNumbersRow.loopsOut == Tryz.f7.resultTypes.toList.any (Tryz.prog.loopsFrom ·)) = true := by kernel_rfl
theorem k22 : (Rows.topNumbersRow.plainKeys == Tryz.prog.plainKeys) = true := by kernel_rfl
theorem k23 : Rows.topNumbersRow.shortTexts.isNone = true := by kernel_rfl
end Go.Proofs.YtmegplnmiepfbaaGreatDoor.topNumbersRow
