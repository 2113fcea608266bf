/- The law TopNumbers as a tied card: for every input the law returns true (distances and counts stay far from their end), and its arguments read as they did; the listed package variables start as the program's text lays them. -/
import Derived.Test.YtmegplnmiepfbaaGreatDoorCards
import Derived.Test.YtmegplnmiepfbaaGreatDoorTie
import Derived.Test.YtmegplnmiepfbaaGreatDoorN5
import Derived.Test.YtmegplnmiepfbaaGreatDoorRTopNumbersA
import Derived.Test.YtmegplnmiepfbaaGreatDoorRTopNumbersB
import Derived.Test.YtmegplnmiepfbaaGreatDoorRTopNumbersC
set_option linter.unusedVariables false
namespace Go.Proofs.YtmegplnmiepfbaaGreatDoor.topNumbersRow
open Go.Sx
theorem own : ownKnob Tryz.prog.godebug = none := by kernel_rfl
theorem laid : laidOutB Tryz.prog = true := by kernel_rfl
set_option maxRecDepth 100000 in
theorem lifted (os : Os) (started : os.Started) (H : Type) (enc : TypeId × Value → H) :
    ReturnsInHanded {} Tryz.checked os 7 .any (fun w args => (Rows.topNumbersSpec.pre enc Tryz.prog Tryz.f7 [] false w args ∧ laidMetH Tryz.prog S.amK w) ∧ sizedMet enc Tryz.prog Tryz.f7 (OpenSpec.ofChange Rows.topNumbersSpec) false w args) (Rows.topNumbersSpec.post enc Tryz.prog Tryz.f7 false true false false) :=
  avH (C := Tryz.checked) (fn := Tryz.f7) (s := Rows.topNumbersSpec) (X := laidMetH Tryz.prog S.amK) (ts := [3, 3, 22, 45]) (UJ := [.int .i64, .int .i64, .sl 1 (.int .u8), .sl 3 S.avG]) (tb := 4) (fuel := 9) (fun w w' e h => laidMetH.of_heap e h) own started (by kernel_rfl) Tryz.func7
    (ChangeSpec.witness_at (enc := enc) (C := Tryz.checked) (os := os) (X := fun w _ => laidMetH Tryz.prog S.amK w) false (S.awy os) #[.int .i64 0, .int .i64 0, .slice none 0 0, .slice none 0 0] 8 rfl (by kernel_rfl) (by kernel_rfl) (by kernel_rfl) (by kernel_rfl) (by kernel_rfl) (S.axy os _))
    laid (by kernel_rfl) (by kernel_rfl) (by kernel_rfl) rfl (by kernel_rfl) Tryz.underlying4 (fun ds h => match ds, h with | [_, _, _, _], _ => rfl) S.atu
theorem andT {a b : Bool} (ha : a = true) (hb : b = true) : (a && b) = true := by rw [ha, hb]; rfl
theorem closed : joinedFacts Tryz.prog 7 Tryz.f7 Rows.topNumbersSpec Rows.topNumbersRow = true := by
  unfold joinedFacts
  exact (andT (andT (andT (andT (andT (andT (andT (andT (andT (andT (andT (andT (andT (andT (andT (andT (andT (andT (andT (andT (andT (andT (andT (andT (andT (andT (andT (andT (andT (andT (andT k0 k1) k2) k3) k4) k5) k6) k7) k8) k9) k10) k11) k12) k13) k14) k15) k16) k17) k18) k19) k20) k21) k22) k23) k24) k25) k26) k27) (by kernel_rfl)) k29) k30) k31)
theorem over : Rows.TopNumbersSaid :=
  OpenClaim.holds_of_wide 7 Tryz.f7 rfl rfl rfl rfl rfl rfl rfl ⟨rfl, rfl, rfl, rfl, rfl⟩ rfl rfl rfl rfl rfl (by kernel_rfl) Tryz.func7 closed
    (of_decide_eq_true (by kernel_rfl)) (by unfold Func.isWrapper; first | (rw [if_pos (by decide +kernel)]; kernel_rfl) | (rw [if_neg (by decide +kernel)]; exact ⟨rfl, rfl⟩))
    (fun os started H enc _ => lifted os started H enc)
end Go.Proofs.YtmegplnmiepfbaaGreatDoor.topNumbersRow
