/- The row of TileSame: for every input the law's function returns true, and its arguments read as they did. -/
import Derived.Test.YtbecldlnajlnnaaRows
import Derived.Test.YtbecldlnajlnnaaTJ
set_option linter.unusedVariables false
namespace Go.Proofs.Ytbecldlnajlnnaa.tileSameRow
open Go.Sx
theorem own : ownKnob Try.prog.godebug = none := by kernel_rfl
theorem laid : laidOutB Try.prog = true := by kernel_rfl
set_option maxRecDepth 100000 in
theorem lifted (os : Os) (started : os.Started) (H : Type) (enc : TypeId × Value → H) :
    ReturnsInHanded {} Try.checked os 5 .any (Rows.tileSameSpec.pre6 enc Try.prog Try.f5 Rows.tileSameRow.domain false) (Rows.tileSameSpec.post enc Try.prog Try.f5 false true false false) :=
  law_lifted (C := Try.checked) (fn := Try.f5) (s := Rows.tileSameSpec) (ts := [24, 24, 3, 5, 4]) (shs := [S.tileS, S.tileS, .int .i64, .int .u8, .bool]) (tb := 4) (fuel := 9) own started (by kernel_rfl) Try.func5
    (ChangeSpec.witness6 (enc := enc) (C := Try.checked) false ⟨#[], #[.agg #[.int .i64 0, .int .i64 0, .slice none 0 0], .agg #[.int .i64 0, .int .i64 0, .slice none 0 0], .int .i64 0, .int .u8 0, .bool false], []⟩ 8 (by kernel_rfl) (by kernel_rfl) (by kernel_rfl) (by kernel_rfl))
    laid (by kernel_rfl) (by kernel_rfl) (by kernel_rfl) rfl (by kernel_rfl) Try.underlying4 (fun ds h => match ds, h with | [_, _, _, _, _], _ => rfl) S.TileSame_law
theorem over : Rows.tileSameRow.holds Try.pinned (OpenSpec.ofChange Rows.tileSameSpec) :=
  OpenClaim.holds_of_wide 5 Try.f5 rfl rfl rfl rfl rfl rfl rfl ⟨rfl, rfl, rfl, rfl, rfl⟩ rfl rfl rfl rfl rfl (by kernel_rfl) Try.func5 (by kernel_rfl)
    (of_decide_eq_true (by kernel_rfl)) (by unfold Func.isWrapper; first | (rw [if_pos (by decide +kernel)]; kernel_rfl) | (rw [if_neg (by decide +kernel)]; exact ⟨rfl, rfl⟩))
    (fun os started H enc _ => lifted os started H enc)
#print axioms over
end Go.Proofs.Ytbecldlnajlnnaa.tileSameRow
namespace Go.Proofs.Ytbecldlnajlnnaa
/-- The row, under a short name, for the claim. -/
theorem tileSame_holds : Rows.TileSameSaid := tileSameRow.over
end Go.Proofs.Ytbecldlnajlnnaa
