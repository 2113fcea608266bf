/- The row of TopFirst: closed facts of the program and the row. -/
import Derived.Test.YtmegplnmiepfbaaGreatDoorRows
import Derived.JoinedOf
namespace Go.Proofs.YtmegplnmiepfbaaGreatDoor.topFirstRow
theorem k11 : (Rows.topFirstRow.recurses == Tryz.prog.recurses 6) = true := by kernel_rfl
theorem k12 : (Rows.topFirstRow.named == Tryz.prog.varsNamed 6) = true := by kernel_rfl
theorem k13 : (Rows.topFirstRow.maps == (Tryz.f6.params.toList ++ Rows.topFirstSpec.plain.varTypes Tryz.prog).any (Tryz.prog.mapsRec ·)) = true := by kernel_rfl
theorem k14 : (Rows.topFirstRow.ifaces == (Tryz.f6.params.toList ++ Rows.topFirstSpec.plain.varTypes Tryz.prog).any (Tryz.prog.ifacesRec ·)) = true := by kernel_rfl
theorem k15 : (Rows.topFirstRow.mapsOut == Tryz.prog.mapsAmong Tryz.f6.resultTypes.toList) = true := by kernel_rfl
theorem k16 : (Rows.topFirstRow.loops == (Tryz.f6.params.toList ++ Rows.topFirstSpec.plain.varTypes Tryz.prog).any (Tryz.prog.loopsFrom ·)) = true := by kernel_rfl
theorem k17 : (Rows.topFirstRow.wideKeys == (Tryz.f6.params.toList ++ Rows.topFirstSpec.plain.varTypes Tryz.prog ++ Tryz.f6.resultTypes.toList).any (Tryz.prog.wideKeysFrom ·)) = true := by kernel_rfl
theorem k18 : Rows.topFirstSpec.vars.all (Tryz.prog.varReadable ·) = true := by kernel_rfl
theorem k19 : Tryz.f6.resultTypes.all (fun t => Tryz.prog.readableRec t && decide (t < Tryz.prog.types.size)) = true := by kernel_rfl
theorem k20 : (Rows.topFirstRow.ifacesOut == Tryz.f6.resultTypes.toList.any (Tryz.prog.ifacesRec ·)) = true := by kernel_rfl
theorem k21 : (Rows.topFirstRow.loopsOut == Tryz.f6.resultTypes.toList.any (Tryz.prog.loopsFrom ·)) = true := by kernel_rfl
theorem k22 : (Rows.topFirstRow.plainKeys == Tryz.prog.plainKeys) = true := by kernel_rfl
theorem k23 : Rows.topFirstRow.shortTexts.isNone = true := by kernel_rfl
end Go.Proofs.YtmegplnmiepfbaaGreatDoor.topFirstRow
