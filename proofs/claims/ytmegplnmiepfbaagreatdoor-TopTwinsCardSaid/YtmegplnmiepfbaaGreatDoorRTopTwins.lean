/- The law TopTwins as a tied card: for every input the law returns true (two services told the same answer the same), and its arguments read as they did; the listed package variables start as the program's text lays them. -/
import Derived.Test.YtmegplnmiepfbaaGreatDoorCards
import Derived.Test.YtmegplnmiepfbaaGreatDoorTie
import Derived.Test.YtmegplnmiepfbaaGreatDoorRTopTwinsD
import Derived.Test.YtmegplnmiepfbaaGreatDoorRTopTwinsE
set_option linter.unusedVariables false
namespace Go.Proofs.YtmegplnmiepfbaaGreatDoor
theorem topTwinsCard_holds : Rows.TopTwinsCardSaid :=
  Claim7.holds_tied_plain_at .later [] [.handle, .sentinel, .sentinel, .sentinel, .sentinel, .sentinel, .sentinel] true (true, "049970bab8c0bfe4f06ed97693ebac25b2e9871543ebb00ea789a9feb270e33d") true
    topTwinsRow.over (fun _ h => by cases h) topTwinsRow.e1 (fun _ h => by cases h) topTwins_row_tie rfl ⟨rfl, rfl⟩ topTwinsRow.e2 rfl
    (fun f fn hf hfn => by
      obtain rfl : f = 9 := Option.some.inj (topTwinsRow.e3.symm.trans hf) |>.symm
      obtain rfl : fn = Tryz.f9 := (Option.some.inj (Tryz.func9.symm.trans hfn)).symm
      exact ⟨topTwinsRow.e4, fun j t ht => by
        have hm : t ∈ [3, 3, 22, 45, 45] := by
          have h1 := Array.mem_of_getElem? ht
          exact Array.mem_toList_iff.2 h1
        simp only [List.mem_cons, List.not_mem_nil, or_false] at hm
        rcases hm with rfl | rfl | rfl | rfl | rfl
        · exact topTwinsRow.w3
        · exact topTwinsRow.w3
        · exact topTwinsRow.w22
        · exact topTwinsRow.w45
        · exact topTwinsRow.w45⟩)
    topTwinsRow.e6
end Go.Proofs.YtmegplnmiepfbaaGreatDoor
