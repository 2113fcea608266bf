/- The law TopNumbers as a tied card: for every input the law returns true (distances and counts stay far from their end), and its arguments read as they did; the listed package variables start as the program's text lays them. -/
import Derived.Test.YtmegplnmiepfbaaGreatDoorCards
import Derived.Test.YtmegplnmiepfbaaGreatDoorTie
import Derived.Test.YtmegplnmiepfbaaGreatDoorRTopNumbersD
import Derived.Test.YtmegplnmiepfbaaGreatDoorRTopNumbersE
set_option linter.unusedVariables false
namespace Go.Proofs.YtmegplnmiepfbaaGreatDoor
theorem topNumbersCard_holds : Rows.TopNumbersCardSaid :=
  Claim7.holds_tied_plain_at .later [] [.handle, .sentinel, .sentinel, .sentinel, .sentinel, .sentinel, .sentinel] true (true, "049970bab8c0bfe4f06ed97693ebac25b2e9871543ebb00ea789a9feb270e33d") true
    topNumbersRow.over (fun _ h => by cases h) topNumbersRow.e1 (fun _ h => by cases h) topNumbers_row_tie rfl ⟨rfl, rfl⟩ topNumbersRow.e2 rfl
    (fun f fn hf hfn => by
      obtain rfl : f = 7 := Option.some.inj (topNumbersRow.e3.symm.trans hf) |>.symm
      obtain rfl : fn = Tryz.f7 := (Option.some.inj (Tryz.func7.symm.trans hfn)).symm
      exact ⟨topNumbersRow.e4, fun j t ht => by
        have hm : t ∈ [3, 3, 22, 45] := by
          have h1 := Array.mem_of_getElem? ht
          exact Array.mem_toList_iff.2 h1
        simp only [List.mem_cons, List.not_mem_nil, or_false] at hm
        rcases hm with rfl | rfl | rfl | rfl
        · exact topNumbersRow.w3
        · exact topNumbersRow.w3
        · exact topNumbersRow.w22
        · exact topNumbersRow.w45⟩)
    topNumbersRow.e6
end Go.Proofs.YtmegplnmiepfbaaGreatDoor
