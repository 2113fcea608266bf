/-
  No cell of these rows narrows 'for every input' (looked for: loops, veiled, ifaces, maps, wideKeys, modest, calm, conditions, laid).
  DERIVED. THE GIVEN ROWS OF THIS SEAT. 5 by the template 'for every input the law returns true; each argument reads behind the call as it read before'; 0 by the template 'total and deterministic' (their statements: YtfmhpmpfkmhgpaaTotals.lean).
  GIVEN WITH THE SEED: the statements are not yours to turn. If you find one false, say at which input.
  Laid BY PROGRAM, IN A SANDBOX (cutbox-rows.mjs): the forced cells as the released guide's own fill.sh prints them over the translation 4c389f951f8c49ee… (all of the seat's roots in one cut). By AI agents, Wed Nov 11 2026. No macro, syntax, notation, axiom, sorry.
-/
import Derived.Test.YtfmhpmpfkmhgpaaChecked
import GoSem.Claim
import GoSem.ClaimJoined
import GoSem.ClaimMapViews
import Derived.JoinedTies
import Derived.KernelRfl
namespace Go.Proofs.Ytfmhpmpfkmhgpaa
/- THE CELL 'sum', in the pinned program and in every row, IS THE sha256 OF THE DUMP (.gsa) THAT YtfmhpmpfkmhgpaaProg.lean LOADS. Nothing in Lean hashes anything: it is a label: what it is worth is what the hold of that sum in a sandbox is worth. -/
noncomputable def Try.pinned : Pinned := { name := "ytfmhpmpfkmhgpaa", sum := "4c389f951f8c49ee1796654e06b4c6ae3aade0c85221b3a301886c0b9dbefa35", checked := Try.checked }
namespace Rows
def none {H : Type} : Left H := { results := [], args := [] }

/-- 'herdsmanlaw7.RingAll': WHATEVER THE INPUT: true; the input reads as it did. -/
def ringAllSpec : ChangeSpec := { name := "ringAll", fn := fun _ => fun
  | [d1, d2] => { results := [.lit (.bool true)], args := [d1, d2] }
  | _ => none }
def ringAllRow : OpenClaim := { program := "ytfmhpmpfkmhgpaa", sum := "4c389f951f8c49ee1796654e06b4c6ae3aade0c85221b3a301886c0b9dbefa35", func := "herdsman/herdsmanlaw7.RingAll", spec := "ringAll", apart := false }
def RingAllSaid : Prop := ringAllRow.holds Try.pinned (OpenSpec.ofChange ringAllSpec)

/-- ITS FALSE NEIGHBOUR: 'it returns false'. Refute it at one input. -/
def ringAllWrong : ChangeSpec := { name := "ringAll", fn := fun _ => fun
  | [d1, d2] => { results := [.lit (.bool false)], args := [d1, d2] }
  | _ => none }
def RingAllWrongFalsely : Prop := ringAllRow.holds Try.pinned (OpenSpec.ofChange ringAllWrong)

/-- 'herdsmanlaw7.RingRound': WHATEVER THE INPUT: true; the input reads as it did. -/
def ringRoundSpec : ChangeSpec := { name := "ringRound", fn := fun _ => fun
  | [d1, d2] => { results := [.lit (.bool true)], args := [d1, d2] }
  | _ => none }
def ringRoundRow : OpenClaim := { program := "ytfmhpmpfkmhgpaa", sum := "4c389f951f8c49ee1796654e06b4c6ae3aade0c85221b3a301886c0b9dbefa35", func := "herdsman/herdsmanlaw7.RingRound", spec := "ringRound", apart := false }
def RingRoundSaid : Prop := ringRoundRow.holds Try.pinned (OpenSpec.ofChange ringRoundSpec)

/-- ITS FALSE NEIGHBOUR: 'it returns false'. Refute it at one input. -/
def ringRoundWrong : ChangeSpec := { name := "ringRound", fn := fun _ => fun
  | [d1, d2] => { results := [.lit (.bool false)], args := [d1, d2] }
  | _ => none }
def RingRoundWrongFalsely : Prop := ringRoundRow.holds Try.pinned (OpenSpec.ofChange ringRoundWrong)

/-- 'herdsmanlaw7.RingPlays': WHATEVER THE INPUT: true; the input reads as it did. -/
def ringPlaysSpec : ChangeSpec := { name := "ringPlays", fn := fun _ => fun
  | [d1, d2, d3] => { results := [.lit (.bool true)], args := [d1, d2, d3] }
  | _ => none }
def ringPlaysRow : OpenClaim := { program := "ytfmhpmpfkmhgpaa", sum := "4c389f951f8c49ee1796654e06b4c6ae3aade0c85221b3a301886c0b9dbefa35", func := "herdsman/herdsmanlaw7.RingPlays", spec := "ringPlays", apart := false }
def RingPlaysSaid : Prop := ringPlaysRow.holds Try.pinned (OpenSpec.ofChange ringPlaysSpec)

/-- ITS FALSE NEIGHBOUR: 'it returns false'. Refute it at one input. -/
def ringPlaysWrong : ChangeSpec := { name := "ringPlays", fn := fun _ => fun
  | [d1, d2, d3] => { results := [.lit (.bool false)], args := [d1, d2, d3] }
  | _ => none }
def RingPlaysWrongFalsely : Prop := ringPlaysRow.holds Try.pinned (OpenSpec.ofChange ringPlaysWrong)

/-- 'herdsmanlaw7.RingJumps': WHATEVER THE INPUT: true; the input reads as it did. -/
def ringJumpsSpec : ChangeSpec := { name := "ringJumps", fn := fun _ => fun
  | [d1, d2, d3] => { results := [.lit (.bool true)], args := [d1, d2, d3] }
  | _ => none }
def ringJumpsRow : OpenClaim := { program := "ytfmhpmpfkmhgpaa", sum := "4c389f951f8c49ee1796654e06b4c6ae3aade0c85221b3a301886c0b9dbefa35", func := "herdsman/herdsmanlaw7.RingJumps", spec := "ringJumps", apart := false }
def RingJumpsSaid : Prop := ringJumpsRow.holds Try.pinned (OpenSpec.ofChange ringJumpsSpec)

/-- ITS FALSE NEIGHBOUR: 'it returns false'. Refute it at one input. -/
def ringJumpsWrong : ChangeSpec := { name := "ringJumps", fn := fun _ => fun
  | [d1, d2, d3] => { results := [.lit (.bool false)], args := [d1, d2, d3] }
  | _ => none }
def RingJumpsWrongFalsely : Prop := ringJumpsRow.holds Try.pinned (OpenSpec.ofChange ringJumpsWrong)

/-- 'herdsmanlaw7.RingNone': WHATEVER THE INPUT: true; the input reads as it did. -/
def ringNoneSpec : ChangeSpec := { name := "ringNone", fn := fun _ => fun
  | [d1, d2] => { results := [.lit (.bool true)], args := [d1, d2] }
  | _ => none }
def ringNoneRow : OpenClaim := { program := "ytfmhpmpfkmhgpaa", sum := "4c389f951f8c49ee1796654e06b4c6ae3aade0c85221b3a301886c0b9dbefa35", func := "herdsman/herdsmanlaw7.RingNone", spec := "ringNone", apart := false }
def RingNoneSaid : Prop := ringNoneRow.holds Try.pinned (OpenSpec.ofChange ringNoneSpec)

/-- ITS FALSE NEIGHBOUR: 'it returns false'. Refute it at one input. -/
def ringNoneWrong : ChangeSpec := { name := "ringNone", fn := fun _ => fun
  | [d1, d2] => { results := [.lit (.bool false)], args := [d1, d2] }
  | _ => none }
def RingNoneWrongFalsely : Prop := ringNoneRow.holds Try.pinned (OpenSpec.ofChange ringNoneWrong)

/- THE SECOND FORM. 'bulk': how many values and letters a reading holds, each counted each time it is reached (what is shared counts as often as it is met; a slice's spare places count too). A statement '..UptoSaid' is the law's where the arguments, and the package variables that the reading takes, are together of bulk at most 1048576: NARROWER than '..Said'. Prove '..Said' where nothing that the law and all that it calls make is longer than what came in: it says more and counts as full. Else prove '..UptoSaid'. A law counts once. -/
mutual
def uptoBulk {H : Type} : DataW H → Nat
  | .lit (.string bytes) => bytes.length + 1
  | .lit _ => 1
  | .nil => 1
  | .ptr d => uptoBulk d + 1
  | .slice elems spare => uptoBulkAll elems + uptoBulkAll spare + 1
  | .agg parts => uptoBulkAll parts + 1
  | .iface _ d => uptoBulk d + 1
  | .map entries => uptoBulkEntries entries + 1
  | .held _ => 1
def uptoBulkAll {H : Type} : List (DataW H) → Nat
  | [] => 0
  | d :: r => uptoBulk d + uptoBulkAll r
def uptoBulkEntries {H : Type} : List (Lit × DataW H) → Nat
  | [] => 0
  | x :: r => uptoBulkEntry x + uptoBulkEntries r
def uptoBulkEntry {H : Type} : Lit × DataW H → Nat
  | (.string bytes, d) => bytes.length + uptoBulk d + 1
  | (_, d) => uptoBulk d + 1
 end
def uptoSmall : (H : Type) → List (DataW H) → Bool := fun _ ds => decide (uptoBulkAll ds ≤ 1048576)
def OpenSpec.upto (s : _root_.Go.ChangeSpec) : _root_.Go.OpenSpec := { _root_.Go.OpenSpec.ofChange s with cond := some uptoSmall }

/-- 'herdsmanlaw7.RingAll', WHERE WHAT IT READS IS OF BULK AT MOST 1048576: true; the input reads as it did. -/
def ringAllUptoRow : OpenClaim := { program := "ytfmhpmpfkmhgpaa", sum := "4c389f951f8c49ee1796654e06b4c6ae3aade0c85221b3a301886c0b9dbefa35", func := "herdsman/herdsmanlaw7.RingAll", spec := "ringAll", apart := false, narrowed := true }
def RingAllUptoSaid : Prop := ringAllUptoRow.holds Try.pinned (OpenSpec.upto ringAllSpec)

/-- 'herdsmanlaw7.RingRound', WHERE WHAT IT READS IS OF BULK AT MOST 1048576: true; the input reads as it did. -/
def ringRoundUptoRow : OpenClaim := { program := "ytfmhpmpfkmhgpaa", sum := "4c389f951f8c49ee1796654e06b4c6ae3aade0c85221b3a301886c0b9dbefa35", func := "herdsman/herdsmanlaw7.RingRound", spec := "ringRound", apart := false, narrowed := true }
def RingRoundUptoSaid : Prop := ringRoundUptoRow.holds Try.pinned (OpenSpec.upto ringRoundSpec)

/-- 'herdsmanlaw7.RingPlays', WHERE WHAT IT READS IS OF BULK AT MOST 1048576: true; the input reads as it did. -/
def ringPlaysUptoRow : OpenClaim := { program := "ytfmhpmpfkmhgpaa", sum := "4c389f951f8c49ee1796654e06b4c6ae3aade0c85221b3a301886c0b9dbefa35", func := "herdsman/herdsmanlaw7.RingPlays", spec := "ringPlays", apart := false, narrowed := true }
def RingPlaysUptoSaid : Prop := ringPlaysUptoRow.holds Try.pinned (OpenSpec.upto ringPlaysSpec)

/-- 'herdsmanlaw7.RingJumps', WHERE WHAT IT READS IS OF BULK AT MOST 1048576: true; the input reads as it did. -/
def ringJumpsUptoRow : OpenClaim := { program := "ytfmhpmpfkmhgpaa", sum := "4c389f951f8c49ee1796654e06b4c6ae3aade0c85221b3a301886c0b9dbefa35", func := "herdsman/herdsmanlaw7.RingJumps", spec := "ringJumps", apart := false, narrowed := true }
def RingJumpsUptoSaid : Prop := ringJumpsUptoRow.holds Try.pinned (OpenSpec.upto ringJumpsSpec)

/-- 'herdsmanlaw7.RingNone', WHERE WHAT IT READS IS OF BULK AT MOST 1048576: true; the input reads as it did. -/
def ringNoneUptoRow : OpenClaim := { program := "ytfmhpmpfkmhgpaa", sum := "4c389f951f8c49ee1796654e06b4c6ae3aade0c85221b3a301886c0b9dbefa35", func := "herdsman/herdsmanlaw7.RingNone", spec := "ringNone", apart := false, narrowed := true }
def RingNoneUptoSaid : Prop := ringNoneUptoRow.holds Try.pinned (OpenSpec.upto ringNoneSpec)

end Rows
end Go.Proofs.Ytfmhpmpfkmhgpaa
