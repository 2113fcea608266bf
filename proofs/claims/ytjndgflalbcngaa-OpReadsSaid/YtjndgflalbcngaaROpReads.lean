/- The row of OpReads: for every input the law's function returns true, and its arguments read as they did. -/
import Derived.Test.YtjndgflalbcngaaRows
import Derived.Test.YtjndgflalbcngaaOE
set_option linter.unusedVariables false
namespace Go.Proofs.Ytjndgflalbcngaa.opReadsRow
open Go.Sx
theorem own : ownKnob Try.prog.godebug = none := by kernel_rfl
theorem laid : laidOutB Try.prog = true := by kernel_rfl
set_option maxRecDepth 100000 in
theorem lifted (os : Os) (started : os.Started) (H : Type) (enc : TypeId × Value → H) :
    ReturnsInHanded {} Try.checked os 3 .any (Rows.opReadsSpec.pre6 enc Try.prog Try.f3 Rows.opReadsRow.domain false) (Rows.opReadsSpec.post enc Try.prog Try.f3 false true false false) :=
  law_lifted (C := Try.checked) (fn := Try.f3) (s := Rows.opReadsSpec) (ts := [22, 4]) (shs := [.sl 1 (.int .u8), .bool]) (tb := 4) (fuel := 9) own started (by kernel_rfl) Try.func3
    (ChangeSpec.witness6 (enc := enc) (C := Try.checked) false ⟨#[], #[.slice none 0 0, .bool false], []⟩ 8 (by kernel_rfl) (by kernel_rfl) (by kernel_rfl) (by kernel_rfl))
    laid (by kernel_rfl) (by kernel_rfl) (by kernel_rfl) rfl (by kernel_rfl) Try.underlying4 (fun ds h => match ds, h with | [_, _], _ => rfl) S.OpReads_law
theorem over : Rows.opReadsRow.holds Try.pinned (OpenSpec.ofChange Rows.opReadsSpec) :=
  OpenClaim.holds_of_wide 3 Try.f3 rfl rfl rfl rfl rfl rfl rfl ⟨rfl, rfl, rfl, rfl, rfl⟩ rfl rfl rfl rfl rfl (by kernel_rfl) Try.func3 (by kernel_rfl)
    (of_decide_eq_true (by kernel_rfl)) (by unfold Func.isWrapper; first | (rw [if_pos (by decide +kernel)]; kernel_rfl) | (rw [if_neg (by decide +kernel)]; exact ⟨rfl, rfl⟩))
    (fun os started H enc _ => lifted os started H enc)
#print axioms over
end Go.Proofs.Ytjndgflalbcngaa.opReadsRow
namespace Go.Proofs.Ytjndgflalbcngaa
/-- The row, under a short name, for the claim. -/
theorem opReads_holds : Rows.OpReadsSaid := opReadsRow.over
end Go.Proofs.Ytjndgflalbcngaa
