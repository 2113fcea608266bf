/- The row of OpBack: for every input the law's function returns true, and its arguments read as they did. -/
import Derived.Test.YtjndgflalbcngaaRows
import Derived.Test.YtjndgflalbcngaaOJ
set_option linter.unusedVariables false
namespace Go.Proofs.Ytjndgflalbcngaa.opBackRow
open Go.Sx
theorem own : ownKnob Try.prog.godebug = none := by kernel_rfl
theorem laid : laidOutB Try.prog = true := by kernel_rfl
set_option maxRecDepth 100000 in
theorem lifted (os : Os) (started : os.Started) (H : Type) (enc : TypeId × Value → H) :
    ReturnsInHanded {} Try.checked os 6 .any (Rows.opBackSpec.pre6 enc Try.prog Try.f6 Rows.opBackRow.domain false) (Rows.opBackSpec.post enc Try.prog Try.f6 false true false false) :=
  law_lifted (C := Try.checked) (fn := Try.f6) (s := Rows.opBackSpec) (ts := [3, 3, 22, 39, 3]) (shs := [.int .i64, .int .i64, .sl 1 (.int .u8), .sl 3 S.askS, .int .i64]) (tb := 4) (fuel := 9) own started (by kernel_rfl) Try.func6
    (ChangeSpec.witness6 (enc := enc) (C := Try.checked) false ⟨#[], #[.int .i64 0, .int .i64 0, .slice none 0 0, .slice none 0 0, .int .i64 0], []⟩ 8 (by kernel_rfl) (by kernel_rfl) (by kernel_rfl) (by kernel_rfl))
    laid (by kernel_rfl) (by kernel_rfl) (by kernel_rfl) rfl (by kernel_rfl) Try.underlying4 (fun ds h => match ds, h with | [_, _, _, _, _], _ => rfl) S.OpBack_law
theorem over : Rows.opBackRow.holds Try.pinned (OpenSpec.ofChange Rows.opBackSpec) :=
  OpenClaim.holds_of_wide 6 Try.f6 rfl rfl rfl rfl rfl rfl rfl ⟨rfl, rfl, rfl, rfl, rfl⟩ rfl rfl rfl rfl rfl (by kernel_rfl) Try.func6 (by kernel_rfl)
    (of_decide_eq_true (by kernel_rfl)) (by unfold Func.isWrapper; first | (rw [if_pos (by decide +kernel)]; kernel_rfl) | (rw [if_neg (by decide +kernel)]; exact ⟨rfl, rfl⟩))
    (fun os started H enc _ => lifted os started H enc)
#print axioms over
end Go.Proofs.Ytjndgflalbcngaa.opBackRow
namespace Go.Proofs.Ytjndgflalbcngaa
/-- The row, under a short name, for the claim. -/
theorem opBack_holds : Rows.OpBackSaid := opBackRow.over
end Go.Proofs.Ytjndgflalbcngaa
