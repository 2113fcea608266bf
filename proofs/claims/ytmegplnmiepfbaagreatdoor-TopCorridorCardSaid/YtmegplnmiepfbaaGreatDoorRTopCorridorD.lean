/- The law TopCorridor as a tied card: for every input the law returns true (two in a corridor, bound for each other's ends, never arrive and end beside each other), and its arguments read as they did; the listed package variables start as the program's text lays them. -/
import Derived.Test.YtmegplnmiepfbaaGreatDoorCards
import Derived.Test.YtmegplnmiepfbaaGreatDoorTie
import Derived.Test.YtmegplnmiepfbaaGreatDoorC4
import Derived.Test.YtmegplnmiepfbaaGreatDoorRTopCorridorA
import Derived.Test.YtmegplnmiepfbaaGreatDoorRTopCorridorB
import Derived.Test.YtmegplnmiepfbaaGreatDoorRTopCorridorC
set_option linter.unusedVariables false
namespace Go.Proofs.YtmegplnmiepfbaaGreatDoor.topCorridorRow
open Go.Sx
theorem own : ownKnob Tryz.prog.godebug = none := by kernel_rfl
theorem laid : laidOutB Tryz.prog = true := by kernel_rfl
set_option maxRecDepth 100000 in
theorem lifted (os : Os) (started : os.Started) (H : Type) (enc : TypeId × Value → H) :
    ReturnsInHanded {} Tryz.checked os 3 .any (fun w args => (Rows.topCorridorSpec.pre enc Tryz.prog Tryz.f3 [] false w args ∧ laidMetH Tryz.prog S.akH w) ∧ sizedMet enc Tryz.prog Tryz.f3 (OpenSpec.ofChange Rows.topCorridorSpec) false w args) (Rows.topCorridorSpec.post enc Tryz.prog Tryz.f3 false true false false) :=
  atj (C := Tryz.checked) (fn := Tryz.f3) (s := Rows.topCorridorSpec) (X := laidMetH Tryz.prog S.akH) (ts := [3, 22, 3, 4]) (Tk := [.int .i64, .sl 1 (.int .u8), .int .i64, .bool]) (tb := 4) (fuel := 9) (fun w w' e h => laidMetH.of_heap e h) own started (by kernel_rfl) Tryz.func3
    (ChangeSpec.witness_at (enc := enc) (C := Tryz.checked) (os := os) (X := fun w _ => laidMetH Tryz.prog S.akH w) false (S.aue os) #[.int .i64 0, .slice none 0 0, .int .i64 0, .bool false] 8 rfl (by kernel_rfl) (by kernel_rfl) (by kernel_rfl) (by kernel_rfl) (by kernel_rfl) (S.au7 os _))
    laid (by kernel_rfl) (by kernel_rfl) (by kernel_rfl) rfl (by kernel_rfl) Tryz.underlying4 (fun ds h => match ds, h with | [_, _, _, _], _ => rfl) S.ap_
theorem andT {a b : Bool} (ha : a = true) (hb : b = true) : (a && b) = true := by rw [ha, hb]; rfl
theorem closed : joinedFacts Tryz.prog 3 Tryz.f3 Rows.topCorridorSpec Rows.topCorridorRow = true := by
  unfold joinedFacts
  exact (andT (andT (andT (andT (andT (andT (andT (andT (andT (andT (andT (andT (andT (andT (andT (andT (andT (andT (andT (andT (andT (andT (andT (andT (andT (andT (andT (andT (andT (andT (andT k0 k1) k2) k3) k4) k5) k6) k7) k8) k9) k10) k11) k12) k13) k14) k15) k16) k17) k18) k19) k20) k21) k22) k23) k24) k25) k26) k27) (by kernel_rfl)) k29) k30) k31)
theorem over : Rows.TopCorridorSaid :=
  OpenClaim.holds_of_wide 3 Tryz.f3 rfl rfl rfl rfl rfl rfl rfl ⟨rfl, rfl, rfl, rfl, rfl⟩ rfl rfl rfl rfl rfl (by kernel_rfl) Tryz.func3 closed
    (of_decide_eq_true (by kernel_rfl)) (by unfold Func.isWrapper; first | (rw [if_pos (by decide +kernel)]; kernel_rfl) | (rw [if_neg (by decide +kernel)]; exact ⟨rfl, rfl⟩))
    (fun os started H enc _ => lifted os started H enc)
end Go.Proofs.YtmegplnmiepfbaaGreatDoor.topCorridorRow
