/- TallyAdds and TallyThree answer true at every numbers. -/
import Derived.Test.YthelhikocaeecaaYA
set_option linter.unusedVariables false
namespace Go.Proofs.Ythelhikocaeecaa.S
open Go.Sx
theorem below_refl (W : World) : Go.RowKit.Below W.heap.size W W := Go.RowKit.Below.refl _ _
theorem TallyAdds_law : LawOk P 3 [.int .u64, .int .u64] := by
  intro W args h
  obtain ⟨v0, r, rfl, h0, h⟩ := RdAll.cons h
  obtain ⟨v1, r, rfl, h1, h⟩ := RdAll.cons h
  obtain rfl := RdAll.nil h
  obtain ⟨a, rfl, ha⟩ := rdV_int h0
  obtain ⟨b, rfl, hb⟩ := rdV_int h1
  exact herdsmanlaw6_TallyAdds.spec (wf_u64 ha) (wf_u64 hb) ⟨rfl, below_refl W⟩
theorem TallyThree_law : LawOk P 4 [.int .u64, .int .u64, .int .u64] := by
  intro W args h
  obtain ⟨v0, r, rfl, h0, h⟩ := RdAll.cons h
  obtain ⟨v1, r, rfl, h1, h⟩ := RdAll.cons h
  obtain ⟨v2, r, rfl, h2, h⟩ := RdAll.cons h
  obtain rfl := RdAll.nil h
  obtain ⟨a, rfl, ha⟩ := rdV_int h0
  obtain ⟨b, rfl, hb⟩ := rdV_int h1
  obtain ⟨c, rfl, hc⟩ := rdV_int h2
  exact herdsmanlaw6_TallyThree.spec (wf_u64 ha) (wf_u64 hb) (wf_u64 hc) ⟨rfl, below_refl W⟩
end Go.Proofs.Ythelhikocaeecaa.S
