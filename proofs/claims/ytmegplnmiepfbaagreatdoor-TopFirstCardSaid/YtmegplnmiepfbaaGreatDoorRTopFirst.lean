/- The law TopFirst as a tied card: for every input the law returns true (no side ahead of the told one leads on along a least way), and its arguments read as they did; the listed package variables start as the program's text lays them. -/
import Derived.Test.YtmegplnmiepfbaaGreatDoorCards
import Derived.Test.YtmegplnmiepfbaaGreatDoorTie
import Derived.Test.YtmegplnmiepfbaaGreatDoorRTopFirstD
import Derived.Test.YtmegplnmiepfbaaGreatDoorRTopFirstE
set_option linter.unusedVariables false
namespace Go.Proofs.YtmegplnmiepfbaaGreatDoor
theorem topFirstCard_holds : Rows.TopFirstCardSaid :=
  Claim7.holds_tied_plain_at .later [] [.handle, .sentinel, .sentinel, .sentinel, .sentinel, .sentinel, .sentinel] true (true, "049970bab8c0bfe4f06ed97693ebac25b2e9871543ebb00ea789a9feb270e33d") true
    topFirstRow.over (fun _ h => by cases h) topFirstRow.e1 (fun _ h => by cases h) topFirst_row_tie rfl ⟨rfl, rfl⟩ topFirstRow.e2 rfl
    (fun f fn hf hfn => by
      obtain rfl : f = 6 := Option.some.inj (topFirstRow.e3.symm.trans hf) |>.symm
      obtain rfl : fn = Tryz.f6 := (Option.some.inj (Tryz.func6.symm.trans hfn)).symm
      exact ⟨topFirstRow.e4, fun j t ht => by
        have hm : t ∈ [3, 3, 22, 45, 3, 3] := by
          have h1 := Array.mem_of_getElem? ht
          exact Array.mem_toList_iff.2 h1
        simp only [List.mem_cons, List.not_mem_nil, or_false] at hm
        rcases hm with rfl | rfl | rfl | rfl | rfl | rfl
        · exact topFirstRow.w3
        · exact topFirstRow.w3
        · exact topFirstRow.w22
        · exact topFirstRow.w45
        · exact topFirstRow.w3
        · exact topFirstRow.w3⟩)
    topFirstRow.e6
end Go.Proofs.YtmegplnmiepfbaaGreatDoor
