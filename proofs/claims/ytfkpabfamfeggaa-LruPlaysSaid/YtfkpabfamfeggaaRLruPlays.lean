/- The row of LruPlays: for every input the law's function returns true, and its arguments read as they did. -/
import Derived.Test.YtfkpabfamfeggaaRows
import Derived.Test.YtfkpabfamfeggaaUJ
set_option linter.unusedVariables false
namespace Go.Proofs.Ytfkpabfamfeggaa.lruPlaysRow
open Go.Sx
theorem own : ownKnob Try.prog.godebug = none := by kernel_rfl
theorem laid : laidOutB Try.prog = true := by kernel_rfl
set_option maxRecDepth 100000 in
theorem lifted (os : Os) (started : os.Started) (H : Type) (enc : TypeId × Value → H) :
    ReturnsInHanded {} Try.checked os 4 .any (Rows.lruPlaysSpec.pre6 enc Try.prog Try.f4 Rows.lruPlaysRow.domain false) (Rows.lruPlaysSpec.post enc Try.prog Try.f4 false true false false) :=
  law_lifted (C := Try.checked) (fn := Try.f4) (s := Rows.lruPlaysSpec) (ts := [3, 34, 4]) (shs := [.int .i64, .sl 3 S.askS, .bool]) (tb := 4) (fuel := 9) own started (by kernel_rfl) Try.func4
    (ChangeSpec.witness6 (enc := enc) (C := Try.checked) false ⟨#[], #[.int .i64 0, .slice none 0 0, .bool false], []⟩ 8 (by kernel_rfl) (by kernel_rfl) (by kernel_rfl) (by kernel_rfl))
    laid (by kernel_rfl) (by kernel_rfl) (by kernel_rfl) rfl (by kernel_rfl) Try.underlying4 (fun ds h => match ds, h with | [_, _, _], _ => rfl) S.LruPlays_law
theorem over : Rows.lruPlaysRow.holds Try.pinned (OpenSpec.ofChange Rows.lruPlaysSpec) :=
  OpenClaim.holds_of_wide 4 Try.f4 rfl rfl rfl rfl rfl rfl rfl ⟨rfl, rfl, rfl, rfl, rfl⟩ rfl rfl rfl rfl rfl (by kernel_rfl) Try.func4 (by kernel_rfl)
    (of_decide_eq_true (by kernel_rfl)) (by unfold Func.isWrapper; first | (rw [if_pos (by decide +kernel)]; kernel_rfl) | (rw [if_neg (by decide +kernel)]; exact ⟨rfl, rfl⟩))
    (fun os started H enc _ => lifted os started H enc)
#print axioms over
end Go.Proofs.Ytfkpabfamfeggaa.lruPlaysRow
namespace Go.Proofs.Ytfkpabfamfeggaa
/-- The row, under a short name, for the claim. -/
theorem lruPlays_holds : Rows.LruPlaysSaid := lruPlaysRow.over
end Go.Proofs.Ytfkpabfamfeggaa
