/- The row of TallyBytes: for every input the law's function returns true, and its arguments read as they did. -/
import Derived.Test.YthelhikocaeecaaRows
import Derived.Test.YthelhikocaeecaaYI
set_option linter.unusedVariables false
namespace Go.Proofs.Ythelhikocaeecaa.tallyBytesRow
open Go.Sx
theorem own : ownKnob Try.prog.godebug = none := by kernel_rfl
theorem laid : laidOutB Try.prog = true := by kernel_rfl
set_option maxRecDepth 100000 in
theorem lifted (os : Os) (started : os.Started) (H : Type) (enc : TypeId × Value → H) :
    ReturnsInHanded {} Try.checked os 6 .any (Rows.tallyBytesSpec.pre6 enc Try.prog Try.f6 Rows.tallyBytesRow.domain false) (Rows.tallyBytesSpec.post enc Try.prog Try.f6 false true false false) :=
  law_lifted (C := Try.checked) (fn := Try.f6) (s := Rows.tallyBytesSpec) (ts := [28, 28]) (shs := [S.stats, S.stats]) (tb := 4) (fuel := 9) own started (by kernel_rfl) Try.func6
    (ChangeSpec.witness6 (enc := enc) (C := Try.checked) false ⟨#[], #[.agg #[.int .u64 0, .int .u64 0, .int .u64 0, .int .u64 0, .int .u64 0, .int .u64 0], .agg #[.int .u64 0, .int .u64 0, .int .u64 0, .int .u64 0, .int .u64 0, .int .u64 0]], []⟩ 8 (by kernel_rfl) (by kernel_rfl) (by kernel_rfl) (by kernel_rfl))
    laid (by kernel_rfl) (by kernel_rfl) (by kernel_rfl) rfl (by kernel_rfl) Try.underlying4 (fun ds h => match ds, h with | [_, _], _ => rfl) S.TallyBytes_law
theorem over : Rows.tallyBytesRow.holds Try.pinned (OpenSpec.ofChange Rows.tallyBytesSpec) :=
  OpenClaim.holds_of_wide 6 Try.f6 rfl rfl rfl rfl rfl rfl rfl ⟨rfl, rfl, rfl, rfl, rfl⟩ rfl rfl rfl rfl rfl (by kernel_rfl) Try.func6 (by kernel_rfl)
    (of_decide_eq_true (by kernel_rfl)) (by unfold Func.isWrapper; first | (rw [if_pos (by decide +kernel)]; kernel_rfl) | (rw [if_neg (by decide +kernel)]; exact ⟨rfl, rfl⟩))
    (fun os started H enc _ => lifted os started H enc)
#print axioms over
end Go.Proofs.Ythelhikocaeecaa.tallyBytesRow
namespace Go.Proofs.Ythelhikocaeecaa
/-- The row, under a short name, for the claim. -/
theorem tallyBytes_holds : Rows.TallyBytesSaid := tallyBytesRow.over
end Go.Proofs.Ythelhikocaeecaa
