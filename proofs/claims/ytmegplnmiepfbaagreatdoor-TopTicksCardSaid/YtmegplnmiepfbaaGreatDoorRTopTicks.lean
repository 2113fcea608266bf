/- The law TopTicks as a tied card: for every input the law returns true (a tick's moves go by the told directions, one by one), and its arguments read as they did; the listed package variables start as the program's text lays them. -/
import Derived.Test.YtmegplnmiepfbaaGreatDoorCards
import Derived.Test.YtmegplnmiepfbaaGreatDoorTie
import Derived.Test.YtmegplnmiepfbaaGreatDoorRTopTicksD
import Derived.Test.YtmegplnmiepfbaaGreatDoorRTopTicksE
set_option linter.unusedVariables false
namespace Go.Proofs.YtmegplnmiepfbaaGreatDoor
theorem topTicksCard_holds : Rows.TopTicksCardSaid :=
  Claim7.holds_tied_plain_at .later [] [.handle, .sentinel, .sentinel, .sentinel, .sentinel, .sentinel, .sentinel] true (true, "049970bab8c0bfe4f06ed97693ebac25b2e9871543ebb00ea789a9feb270e33d") true
    topTicksRow.over (fun _ h => by cases h) topTicksRow.e1 (fun _ h => by cases h) topTicks_row_tie rfl ⟨rfl, rfl⟩ topTicksRow.e2 rfl
    (fun f fn hf hfn => by
      obtain rfl : f = 8 := Option.some.inj (topTicksRow.e3.symm.trans hf) |>.symm
      obtain rfl : fn = Tryz.f8 := (Option.some.inj (Tryz.func8.symm.trans hfn)).symm
      exact ⟨topTicksRow.e4, fun j t ht => by
        have hm : t ∈ [3, 3, 22, 45, 3] := by
          have h1 := Array.mem_of_getElem? ht
          exact Array.mem_toList_iff.2 h1
        simp only [List.mem_cons, List.not_mem_nil, or_false] at hm
        rcases hm with rfl | rfl | rfl | rfl | rfl
        · exact topTicksRow.w3
        · exact topTicksRow.w3
        · exact topTicksRow.w22
        · exact topTicksRow.w45
        · exact topTicksRow.w3⟩)
    topTicksRow.e6
end Go.Proofs.YtmegplnmiepfbaaGreatDoor
