/- The row of LruSlots: for every input the law's function returns true, and its arguments read as they did. -/
import Derived.Test.YtfkpabfamfeggaaRows
import Derived.Test.YtfkpabfamfeggaaUG
set_option linter.unusedVariables false
namespace Go.Proofs.Ytfkpabfamfeggaa.lruSlotsRow
open Go.Sx
theorem own : ownKnob Try.prog.godebug = none := by kernel_rfl
theorem laid : laidOutB Try.prog = true := by kernel_rfl
set_option maxRecDepth 100000 in
theorem lifted (os : Os) (started : os.Started) (H : Type) (enc : TypeId × Value → H) :
    ReturnsInHanded {} Try.checked os 5 .any (Rows.lruSlotsSpec.pre6 enc Try.prog Try.f5 Rows.lruSlotsRow.domain false) (Rows.lruSlotsSpec.post enc Try.prog Try.f5 false true false false) :=
  law_lifted (C := Try.checked) (fn := Try.f5) (s := Rows.lruSlotsSpec) (ts := [3, 22]) (shs := [.int .i64, .sl 1 (.int .i64)]) (tb := 4) (fuel := 9) own started (by kernel_rfl) Try.func5
    (ChangeSpec.witness6 (enc := enc) (C := Try.checked) false ⟨#[], #[.int .i64 0, .slice none 0 0], []⟩ 8 (by kernel_rfl) (by kernel_rfl) (by kernel_rfl) (by kernel_rfl))
    laid (by kernel_rfl) (by kernel_rfl) (by kernel_rfl) rfl (by kernel_rfl) Try.underlying4 (fun ds h => match ds, h with | [_, _], _ => rfl) S.LruSlots_law
theorem over : Rows.lruSlotsRow.holds Try.pinned (OpenSpec.ofChange Rows.lruSlotsSpec) :=
  OpenClaim.holds_of_wide 5 Try.f5 rfl rfl rfl rfl rfl rfl rfl ⟨rfl, rfl, rfl, rfl, rfl⟩ rfl rfl rfl rfl rfl (by kernel_rfl) Try.func5 (by kernel_rfl)
    (of_decide_eq_true (by kernel_rfl)) (by unfold Func.isWrapper; first | (rw [if_pos (by decide +kernel)]; kernel_rfl) | (rw [if_neg (by decide +kernel)]; exact ⟨rfl, rfl⟩))
    (fun os started H enc _ => lifted os started H enc)
#print axioms over
end Go.Proofs.Ytfkpabfamfeggaa.lruSlotsRow
namespace Go.Proofs.Ytfkpabfamfeggaa
/-- The row, under a short name, for the claim. -/
theorem lruSlots_holds : Rows.LruSlotsSaid := lruSlotsRow.over
end Go.Proofs.Ytfkpabfamfeggaa
