/-
  No cell of these rows narrows 'for every input' (looked for: loops, veiled, ifaces, maps, wideKeys, modest, calm, conditions, laid).
  DERIVED. THE GIVEN ROWS OF THIS SEAT. 5 by the template 'for every input the law returns true; each argument reads behind the call as it read before'; 0 by the template 'total and deterministic' (their statements: YthelhikocaeecaaTotals.lean).
  GIVEN WITH THE SEED: the statements are not yours to turn. If you find one false, say at which input.
  Laid BY PROGRAM, IN A SANDBOX (cutbox-rows.mjs): the forced cells as the released guide's own fill.sh prints them over the translation 7b9bb67271c52902… (all of the seat's roots in one cut). By AI agents, Wed Nov 11 2026. No macro, syntax, notation, axiom, sorry.
-/
import Derived.Test.YthelhikocaeecaaChecked
import GoSem.Claim
import GoSem.ClaimJoined
import GoSem.ClaimMapViews
import Derived.JoinedTies
import Derived.KernelRfl
namespace Go.Proofs.Ythelhikocaeecaa
/- THE CELL 'sum', in the pinned program and in every row, IS THE sha256 OF THE DUMP (.gsa) THAT YthelhikocaeecaaProg.lean LOADS. Nothing in Lean hashes anything: it is a label: what it is worth is what the hold of that sum in a sandbox is worth. -/
noncomputable def Try.pinned : Pinned := { name := "ythelhikocaeecaa", sum := "7b9bb67271c529025eabdac527aacb77fc21348a7fd0ddd5459d72ab7cb5ae6f", checked := Try.checked }
namespace Rows
def none {H : Type} : Left H := { results := [], args := [] }

/-- 'herdsmanlaw6.TallyAdds': WHATEVER THE INPUT: true; the input reads as it did. -/
def tallyAddsSpec : ChangeSpec := { name := "tallyAdds", fn := fun _ => fun
  | [d1, d2] => { results := [.lit (.bool true)], args := [d1, d2] }
  | _ => none }
def tallyAddsRow : OpenClaim := { program := "ythelhikocaeecaa", sum := "7b9bb67271c529025eabdac527aacb77fc21348a7fd0ddd5459d72ab7cb5ae6f", func := "herdsman/herdsmanlaw6.TallyAdds", spec := "tallyAdds", apart := false }
def TallyAddsSaid : Prop := tallyAddsRow.holds Try.pinned (OpenSpec.ofChange tallyAddsSpec)

/-- ITS FALSE NEIGHBOUR: 'it returns false'. Refute it at one input. -/
def tallyAddsWrong : ChangeSpec := { name := "tallyAdds", fn := fun _ => fun
  | [d1, d2] => { results := [.lit (.bool false)], args := [d1, d2] }
  | _ => none }
def TallyAddsWrongFalsely : Prop := tallyAddsRow.holds Try.pinned (OpenSpec.ofChange tallyAddsWrong)

/-- 'herdsmanlaw6.TallyThree': WHATEVER THE INPUT: true; the input reads as it did. -/
def tallyThreeSpec : ChangeSpec := { name := "tallyThree", fn := fun _ => fun
  | [d1, d2, d3] => { results := [.lit (.bool true)], args := [d1, d2, d3] }
  | _ => none }
def tallyThreeRow : OpenClaim := { program := "ythelhikocaeecaa", sum := "7b9bb67271c529025eabdac527aacb77fc21348a7fd0ddd5459d72ab7cb5ae6f", func := "herdsman/herdsmanlaw6.TallyThree", spec := "tallyThree", apart := false }
def TallyThreeSaid : Prop := tallyThreeRow.holds Try.pinned (OpenSpec.ofChange tallyThreeSpec)

/-- ITS FALSE NEIGHBOUR: 'it returns false'. Refute it at one input. -/
def tallyThreeWrong : ChangeSpec := { name := "tallyThree", fn := fun _ => fun
  | [d1, d2, d3] => { results := [.lit (.bool false)], args := [d1, d2, d3] }
  | _ => none }
def TallyThreeWrongFalsely : Prop := tallyThreeRow.holds Try.pinned (OpenSpec.ofChange tallyThreeWrong)

/-- 'herdsmanlaw6.TallyOrder': WHATEVER THE INPUT: true; the input reads as it did. -/
def tallyOrderSpec : ChangeSpec := { name := "tallyOrder", fn := fun _ => fun
  | [d1, d2, d3, d4, d5] => { results := [.lit (.bool true)], args := [d1, d2, d3, d4, d5] }
  | _ => none }
def tallyOrderRow : OpenClaim := { program := "ythelhikocaeecaa", sum := "7b9bb67271c529025eabdac527aacb77fc21348a7fd0ddd5459d72ab7cb5ae6f", func := "herdsman/herdsmanlaw6.TallyOrder", spec := "tallyOrder", apart := false }
def TallyOrderSaid : Prop := tallyOrderRow.holds Try.pinned (OpenSpec.ofChange tallyOrderSpec)

/-- ITS FALSE NEIGHBOUR: 'it returns false'. Refute it at one input. -/
def tallyOrderWrong : ChangeSpec := { name := "tallyOrder", fn := fun _ => fun
  | [d1, d2, d3, d4, d5] => { results := [.lit (.bool false)], args := [d1, d2, d3, d4, d5] }
  | _ => none }
def TallyOrderWrongFalsely : Prop := tallyOrderRow.holds Try.pinned (OpenSpec.ofChange tallyOrderWrong)

/-- 'herdsmanlaw6.TallyBytes': WHATEVER THE INPUT: true; the input reads as it did. -/
def tallyBytesSpec : ChangeSpec := { name := "tallyBytes", fn := fun _ => fun
  | [d1, d2] => { results := [.lit (.bool true)], args := [d1, d2] }
  | _ => none }
def tallyBytesRow : OpenClaim := { program := "ythelhikocaeecaa", sum := "7b9bb67271c529025eabdac527aacb77fc21348a7fd0ddd5459d72ab7cb5ae6f", func := "herdsman/herdsmanlaw6.TallyBytes", spec := "tallyBytes", apart := false }
def TallyBytesSaid : Prop := tallyBytesRow.holds Try.pinned (OpenSpec.ofChange tallyBytesSpec)

/-- ITS FALSE NEIGHBOUR: 'it returns false'. Refute it at one input. -/
def tallyBytesWrong : ChangeSpec := { name := "tallyBytes", fn := fun _ => fun
  | [d1, d2] => { results := [.lit (.bool false)], args := [d1, d2] }
  | _ => none }
def TallyBytesWrongFalsely : Prop := tallyBytesRow.holds Try.pinned (OpenSpec.ofChange tallyBytesWrong)

/-- 'herdsmanlaw6.TallySums': WHATEVER THE INPUT: true; the input reads as it did. -/
def tallySumsSpec : ChangeSpec := { name := "tallySums", fn := fun _ => fun
  | [d1, d2] => { results := [.lit (.bool true)], args := [d1, d2] }
  | _ => none }
def tallySumsRow : OpenClaim := { program := "ythelhikocaeecaa", sum := "7b9bb67271c529025eabdac527aacb77fc21348a7fd0ddd5459d72ab7cb5ae6f", func := "herdsman/herdsmanlaw6.TallySums", spec := "tallySums", apart := false }
def TallySumsSaid : Prop := tallySumsRow.holds Try.pinned (OpenSpec.ofChange tallySumsSpec)

/-- ITS FALSE NEIGHBOUR: 'it returns false'. Refute it at one input. -/
def tallySumsWrong : ChangeSpec := { name := "tallySums", fn := fun _ => fun
  | [d1, d2] => { results := [.lit (.bool false)], args := [d1, d2] }
  | _ => none }
def TallySumsWrongFalsely : Prop := tallySumsRow.holds Try.pinned (OpenSpec.ofChange tallySumsWrong)

/- THE SECOND FORM. 'bulk': how many values and letters a reading holds, each counted each time it is reached (what is shared counts as often as it is met; a slice's spare places count too). A statement '..UptoSaid' is the law's where the arguments, and the package variables that the reading takes, are together of bulk at most 1048576: NARROWER than '..Said'. Prove '..Said' where nothing that the law and all that it calls make is longer than what came in: it says more and counts as full. Else prove '..UptoSaid'. A law counts once. -/
mutual
def uptoBulk {H : Type} : DataW H → Nat
  | .lit (.string bytes) => bytes.length + 1
  | .lit _ => 1
  | .nil => 1
  | .ptr d => uptoBulk d + 1
  | .slice elems spare => uptoBulkAll elems + uptoBulkAll spare + 1
  | .agg parts => uptoBulkAll parts + 1
  | .iface _ d => uptoBulk d + 1
  | .map entries => uptoBulkEntries entries + 1
  | .held _ => 1
def uptoBulkAll {H : Type} : List (DataW H) → Nat
  | [] => 0
  | d :: r => uptoBulk d + uptoBulkAll r
def uptoBulkEntries {H : Type} : List (Lit × DataW H) → Nat
  | [] => 0
  | x :: r => uptoBulkEntry x + uptoBulkEntries r
def uptoBulkEntry {H : Type} : Lit × DataW H → Nat
  | (.string bytes, d) => bytes.length + uptoBulk d + 1
  | (_, d) => uptoBulk d + 1
 end
def uptoSmall : (H : Type) → List (DataW H) → Bool := fun _ ds => decide (uptoBulkAll ds ≤ 1048576)
def OpenSpec.upto (s : _root_.Go.ChangeSpec) : _root_.Go.OpenSpec := { _root_.Go.OpenSpec.ofChange s with cond := some uptoSmall }

/-- 'herdsmanlaw6.TallyAdds', WHERE WHAT IT READS IS OF BULK AT MOST 1048576: true; the input reads as it did. -/
def tallyAddsUptoRow : OpenClaim := { program := "ythelhikocaeecaa", sum := "7b9bb67271c529025eabdac527aacb77fc21348a7fd0ddd5459d72ab7cb5ae6f", func := "herdsman/herdsmanlaw6.TallyAdds", spec := "tallyAdds", apart := false, narrowed := true }
def TallyAddsUptoSaid : Prop := tallyAddsUptoRow.holds Try.pinned (OpenSpec.upto tallyAddsSpec)

/-- 'herdsmanlaw6.TallyThree', WHERE WHAT IT READS IS OF BULK AT MOST 1048576: true; the input reads as it did. -/
def tallyThreeUptoRow : OpenClaim := { program := "ythelhikocaeecaa", sum := "7b9bb67271c529025eabdac527aacb77fc21348a7fd0ddd5459d72ab7cb5ae6f", func := "herdsman/herdsmanlaw6.TallyThree", spec := "tallyThree", apart := false, narrowed := true }
def TallyThreeUptoSaid : Prop := tallyThreeUptoRow.holds Try.pinned (OpenSpec.upto tallyThreeSpec)

/-- 'herdsmanlaw6.TallyOrder', WHERE WHAT IT READS IS OF BULK AT MOST 1048576: true; the input reads as it did. -/
def tallyOrderUptoRow : OpenClaim := { program := "ythelhikocaeecaa", sum := "7b9bb67271c529025eabdac527aacb77fc21348a7fd0ddd5459d72ab7cb5ae6f", func := "herdsman/herdsmanlaw6.TallyOrder", spec := "tallyOrder", apart := false, narrowed := true }
def TallyOrderUptoSaid : Prop := tallyOrderUptoRow.holds Try.pinned (OpenSpec.upto tallyOrderSpec)

/-- 'herdsmanlaw6.TallyBytes', WHERE WHAT IT READS IS OF BULK AT MOST 1048576: true; the input reads as it did. -/
def tallyBytesUptoRow : OpenClaim := { program := "ythelhikocaeecaa", sum := "7b9bb67271c529025eabdac527aacb77fc21348a7fd0ddd5459d72ab7cb5ae6f", func := "herdsman/herdsmanlaw6.TallyBytes", spec := "tallyBytes", apart := false, narrowed := true }
def TallyBytesUptoSaid : Prop := tallyBytesUptoRow.holds Try.pinned (OpenSpec.upto tallyBytesSpec)

/-- 'herdsmanlaw6.TallySums', WHERE WHAT IT READS IS OF BULK AT MOST 1048576: true; the input reads as it did. -/
def tallySumsUptoRow : OpenClaim := { program := "ythelhikocaeecaa", sum := "7b9bb67271c529025eabdac527aacb77fc21348a7fd0ddd5459d72ab7cb5ae6f", func := "herdsman/herdsmanlaw6.TallySums", spec := "tallySums", apart := false, narrowed := true }
def TallySumsUptoSaid : Prop := tallySumsUptoRow.holds Try.pinned (OpenSpec.upto tallySumsSpec)

end Rows
end Go.Proofs.Ythelhikocaeecaa
