/- The law TopLed as a tied card: for every input the law returns true (who goes by the told directions comes to the goal and has paid the distance), and its arguments read as they did; the listed package variables start as the program's text lays them. -/
import Derived.Test.YtmegplnmiepfbaaGreatDoorCards
import Derived.Test.YtmegplnmiepfbaaGreatDoorTie
import Derived.Test.YtmegplnmiepfbaaGreatDoorRTopLedD
import Derived.Test.YtmegplnmiepfbaaGreatDoorRTopLedE
set_option linter.unusedVariables false
namespace Go.Proofs.YtmegplnmiepfbaaGreatDoor
theorem topLedCard_holds : Rows.TopLedCardSaid :=
  Claim7.holds_tied_plain_at .later [] [.handle, .sentinel, .sentinel, .sentinel, .sentinel, .sentinel, .sentinel] true (true, "049970bab8c0bfe4f06ed97693ebac25b2e9871543ebb00ea789a9feb270e33d") true
    topLedRow.over (fun _ h => by cases h) topLedRow.e1 (fun _ h => by cases h) topLed_row_tie rfl ⟨rfl, rfl⟩ topLedRow.e2 rfl
    (fun f fn hf hfn => by
      obtain rfl : f = 5 := Option.some.inj (topLedRow.e3.symm.trans hf) |>.symm
      obtain rfl : fn = Tryz.f5 := (Option.some.inj (Tryz.func5.symm.trans hfn)).symm
      exact ⟨topLedRow.e4, fun j t ht => by
        have hm : t ∈ [3, 3, 3, 22, 45, 3, 3] := by
          have h1 := Array.mem_of_getElem? ht
          exact Array.mem_toList_iff.2 h1
        simp only [List.mem_cons, List.not_mem_nil, or_false] at hm
        rcases hm with rfl | rfl | rfl | rfl | rfl | rfl | rfl
        · exact topLedRow.w3
        · exact topLedRow.w3
        · exact topLedRow.w3
        · exact topLedRow.w22
        · exact topLedRow.w45
        · exact topLedRow.w3
        · exact topLedRow.w3⟩)
    topLedRow.e6
end Go.Proofs.YtmegplnmiepfbaaGreatDoor
