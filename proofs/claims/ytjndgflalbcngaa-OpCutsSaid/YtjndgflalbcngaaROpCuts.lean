/- The row of OpCuts: for every input the law's function returns true, and its arguments read as they did. -/
import Derived.Test.YtjndgflalbcngaaRows
import Derived.Test.YtjndgflalbcngaaOK
set_option linter.unusedVariables false
namespace Go.Proofs.Ytjndgflalbcngaa.opCutsRow
open Go.Sx
theorem own : ownKnob Try.prog.godebug = none := by kernel_rfl
theorem laid : laidOutB Try.prog = true := by kernel_rfl
set_option maxRecDepth 100000 in
theorem lifted (os : Os) (started : os.Started) (H : Type) (enc : TypeId × Value → H) :
    ReturnsInHanded {} Try.checked os 7 .any (Rows.opCutsSpec.pre6 enc Try.prog Try.f7 Rows.opCutsRow.domain false) (Rows.opCutsSpec.post enc Try.prog Try.f7 false true false false) :=
  law_lifted (C := Try.checked) (fn := Try.f7) (s := Rows.opCutsSpec) (ts := [3, 3, 22, 39, 3]) (shs := [.int .i64, .int .i64, .sl 1 (.int .u8), .sl 3 S.askS, .int .i64]) (tb := 4) (fuel := 9) own started (by kernel_rfl) Try.func7
    (ChangeSpec.witness6 (enc := enc) (C := Try.checked) false ⟨#[], #[.int .i64 0, .int .i64 0, .slice none 0 0, .slice none 0 0, .int .i64 0], []⟩ 8 (by kernel_rfl) (by kernel_rfl) (by kernel_rfl) (by kernel_rfl))
    laid (by kernel_rfl) (by kernel_rfl) (by kernel_rfl) rfl (by kernel_rfl) Try.underlying4 (fun ds h => match ds, h with | [_, _, _, _, _], _ => rfl) S.OpCuts_law
theorem over : Rows.opCutsRow.holds Try.pinned (OpenSpec.ofChange Rows.opCutsSpec) :=
  OpenClaim.holds_of_wide 7 Try.f7 rfl rfl rfl rfl rfl rfl rfl ⟨rfl, rfl, rfl, rfl, rfl⟩ rfl rfl rfl rfl rfl (by kernel_rfl) Try.func7 (by kernel_rfl)
    (of_decide_eq_true (by kernel_rfl)) (by unfold Func.isWrapper; first | (rw [if_pos (by decide +kernel)]; kernel_rfl) | (rw [if_neg (by decide +kernel)]; exact ⟨rfl, rfl⟩))
    (fun os started H enc _ => lifted os started H enc)
#print axioms over
end Go.Proofs.Ytjndgflalbcngaa.opCutsRow
namespace Go.Proofs.Ytjndgflalbcngaa
/-- The row, under a short name, for the claim. -/
theorem opCuts_holds : Rows.OpCutsSaid := opCutsRow.over
end Go.Proofs.Ytjndgflalbcngaa
