/- The law TopCorridor as a tied card: for every input the law returns true (two in a corridor, bound for each other's ends, never arrive and end beside each other), and its arguments read as they did; the listed package variables start as the program's text lays them. -/
import Derived.Test.YtmegplnmiepfbaaGreatDoorCards
import Derived.Test.YtmegplnmiepfbaaGreatDoorTie
import Derived.Test.YtmegplnmiepfbaaGreatDoorRTopCorridorD
import Derived.Test.YtmegplnmiepfbaaGreatDoorRTopCorridorE
set_option linter.unusedVariables false
namespace Go.Proofs.YtmegplnmiepfbaaGreatDoor
theorem topCorridorCard_holds : Rows.TopCorridorCardSaid :=
  Claim7.holds_tied_plain_at .later [] [.handle, .sentinel, .sentinel, .sentinel, .sentinel, .sentinel, .sentinel] true (true, "049970bab8c0bfe4f06ed97693ebac25b2e9871543ebb00ea789a9feb270e33d") true
    topCorridorRow.over (fun _ h => by cases h) topCorridorRow.e1 (fun _ h => by cases h) topCorridor_row_tie rfl ⟨rfl, rfl⟩ topCorridorRow.e2 rfl
    (fun f fn hf hfn => by
      obtain rfl : f = 3 := Option.some.inj (topCorridorRow.e3.symm.trans hf) |>.symm
      obtain rfl : fn = Tryz.f3 := (Option.some.inj (Tryz.func3.symm.trans hfn)).symm
      exact ⟨topCorridorRow.e4, fun j t ht => by
        have hm : t ∈ [3, 22, 3, 4] := by
          have h1 := Array.mem_of_getElem? ht
          exact Array.mem_toList_iff.2 h1
        simp only [List.mem_cons, List.not_mem_nil, or_false] at hm
        rcases hm with rfl | rfl | rfl | rfl
        · exact topCorridorRow.w3
        · exact topCorridorRow.w22
        · exact topCorridorRow.w3
        · exact topCorridorRow.w4⟩)
    topCorridorRow.e6
end Go.Proofs.YtmegplnmiepfbaaGreatDoor
