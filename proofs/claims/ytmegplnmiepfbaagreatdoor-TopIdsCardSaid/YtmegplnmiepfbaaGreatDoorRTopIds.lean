/- The law TopIds as a tied card: for every input the law returns true (units' numbers are given from 0 on, each once, and who is gone is never told of again), and its arguments read as they did; the listed package variables start as the program's text lays them. -/
import Derived.Test.YtmegplnmiepfbaaGreatDoorCards
import Derived.Test.YtmegplnmiepfbaaGreatDoorTie
import Derived.Test.YtmegplnmiepfbaaGreatDoorRTopIdsD
import Derived.Test.YtmegplnmiepfbaaGreatDoorRTopIdsE
set_option linter.unusedVariables false
namespace Go.Proofs.YtmegplnmiepfbaaGreatDoor
theorem topIdsCard_holds : Rows.TopIdsCardSaid :=
  Claim7.holds_tied_plain_at .later [] [.handle, .sentinel, .sentinel, .sentinel, .sentinel, .sentinel, .sentinel] true (true, "049970bab8c0bfe4f06ed97693ebac25b2e9871543ebb00ea789a9feb270e33d") true
    topIdsRow.over (fun _ h => by cases h) topIdsRow.e1 (fun _ h => by cases h) topIds_row_tie rfl ⟨rfl, rfl⟩ topIdsRow.e2 rfl
    (fun f fn hf hfn => by
      obtain rfl : f = 4 := Option.some.inj (topIdsRow.e3.symm.trans hf) |>.symm
      obtain rfl : fn = Tryz.f4 := (Option.some.inj (Tryz.func4.symm.trans hfn)).symm
      exact ⟨topIdsRow.e4, fun j t ht => by
        have hm : t ∈ [3, 3, 22, 45] := by
          have h1 := Array.mem_of_getElem? ht
          exact Array.mem_toList_iff.2 h1
        simp only [List.mem_cons, List.not_mem_nil, or_false] at hm
        rcases hm with rfl | rfl | rfl | rfl
        · exact topIdsRow.w3
        · exact topIdsRow.w3
        · exact topIdsRow.w22
        · exact topIdsRow.w45⟩)
    topIdsRow.e6
end Go.Proofs.YtmegplnmiepfbaaGreatDoor
