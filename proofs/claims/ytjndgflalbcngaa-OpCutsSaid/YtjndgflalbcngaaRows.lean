/-
  No cell of these rows narrows 'for every input' (looked for: loops, veiled, ifaces, maps, wideKeys, modest, calm, conditions, laid).
  DERIVED. THE GIVEN ROWS OF THIS SEAT. 5 by the template 'for every input the law returns true; each argument reads behind the call as it read before'; 0 by the template 'total and deterministic' (their statements: YtjndgflalbcngaaTotals.lean).
  GIVEN WITH THE SEED: the statements are not yours to turn. If you find one false, say at which input.
  Laid BY PROGRAM, IN A SANDBOX (cutbox-rows.mjs): the forced cells as the released guide's own fill.sh prints them over the translation aab0705abfbd7902… (all of the seat's roots in one cut). By AI agents, Wed Nov 11 2026. No macro, syntax, notation, axiom, sorry.
-/
import Derived.Test.YtjndgflalbcngaaChecked
import GoSem.Claim
import GoSem.ClaimJoined
import GoSem.ClaimMapViews
import Derived.JoinedTies
import Derived.KernelRfl
namespace Go.Proofs.Ytjndgflalbcngaa
/- THE CELL 'sum', in the pinned program and in every row, IS THE sha256 OF THE DUMP (.gsa) THAT YtjndgflalbcngaaProg.lean LOADS. Nothing in Lean hashes anything: it is a label: what it is worth is what the hold of that sum in a sandbox is worth. -/
noncomputable def Try.pinned : Pinned := { name := "ytjndgflalbcngaa", sum := "aab0705abfbd790254f42dd6fb7d37a7e9663e915c2f1bb3d1046aa07d07f6ac", checked := Try.checked }
namespace Rows
def none {H : Type} : Left H := { results := [], args := [] }

/-- 'herdsmanlaw26.OpReads': WHATEVER THE INPUT: true; the input reads as it did. -/
def opReadsSpec : ChangeSpec := { name := "opReads", fn := fun _ => fun
  | [d1, d2] => { results := [.lit (.bool true)], args := [d1, d2] }
  | _ => none }
def opReadsRow : OpenClaim := { program := "ytjndgflalbcngaa", sum := "aab0705abfbd790254f42dd6fb7d37a7e9663e915c2f1bb3d1046aa07d07f6ac", func := "herdsman/herdsmanlaw26.OpReads", spec := "opReads", apart := false }
def OpReadsSaid : Prop := opReadsRow.holds Try.pinned (OpenSpec.ofChange opReadsSpec)

/-- ITS FALSE NEIGHBOUR: 'it returns false'. Refute it at one input. -/
def opReadsWrong : ChangeSpec := { name := "opReads", fn := fun _ => fun
  | [d1, d2] => { results := [.lit (.bool false)], args := [d1, d2] }
  | _ => none }
def OpReadsWrongFalsely : Prop := opReadsRow.holds Try.pinned (OpenSpec.ofChange opReadsWrong)

/-- 'herdsmanlaw26.OpAsks': WHATEVER THE INPUT: true; the input reads as it did. -/
def opAsksSpec : ChangeSpec := { name := "opAsks", fn := fun _ => fun
  | [d1, d2] => { results := [.lit (.bool true)], args := [d1, d2] }
  | _ => none }
def opAsksRow : OpenClaim := { program := "ytjndgflalbcngaa", sum := "aab0705abfbd790254f42dd6fb7d37a7e9663e915c2f1bb3d1046aa07d07f6ac", func := "herdsman/herdsmanlaw26.OpAsks", spec := "opAsks", apart := false }
def OpAsksSaid : Prop := opAsksRow.holds Try.pinned (OpenSpec.ofChange opAsksSpec)

/-- ITS FALSE NEIGHBOUR: 'it returns false'. Refute it at one input. -/
def opAsksWrong : ChangeSpec := { name := "opAsks", fn := fun _ => fun
  | [d1, d2] => { results := [.lit (.bool false)], args := [d1, d2] }
  | _ => none }
def OpAsksWrongFalsely : Prop := opAsksRow.holds Try.pinned (OpenSpec.ofChange opAsksWrong)

/-- 'herdsmanlaw26.OpScripts': WHATEVER THE INPUT: true; the input reads as it did. -/
def opScriptsSpec : ChangeSpec := { name := "opScripts", fn := fun _ => fun
  | [d] => { results := [.lit (.bool true)], args := [d] }
  | _ => none }
def opScriptsRow : OpenClaim := { program := "ytjndgflalbcngaa", sum := "aab0705abfbd790254f42dd6fb7d37a7e9663e915c2f1bb3d1046aa07d07f6ac", func := "herdsman/herdsmanlaw26.OpScripts", spec := "opScripts", apart := false }
def OpScriptsSaid : Prop := opScriptsRow.holds Try.pinned (OpenSpec.ofChange opScriptsSpec)

/-- ITS FALSE NEIGHBOUR: 'it returns false'. Refute it at one input. -/
def opScriptsWrong : ChangeSpec := { name := "opScripts", fn := fun _ => fun
  | [d] => { results := [.lit (.bool false)], args := [d] }
  | _ => none }
def OpScriptsWrongFalsely : Prop := opScriptsRow.holds Try.pinned (OpenSpec.ofChange opScriptsWrong)

/-- 'herdsmanlaw26.OpBack': WHATEVER THE INPUT: true; the input reads as it did. -/
def opBackSpec : ChangeSpec := { name := "opBack", fn := fun _ => fun
  | [d1, d2, d3, d4, d5] => { results := [.lit (.bool true)], args := [d1, d2, d3, d4, d5] }
  | _ => none }
def opBackRow : OpenClaim := { program := "ytjndgflalbcngaa", sum := "aab0705abfbd790254f42dd6fb7d37a7e9663e915c2f1bb3d1046aa07d07f6ac", func := "herdsman/herdsmanlaw26.OpBack", spec := "opBack", apart := false }
def OpBackSaid : Prop := opBackRow.holds Try.pinned (OpenSpec.ofChange opBackSpec)

/-- ITS FALSE NEIGHBOUR: 'it returns false'. Refute it at one input. -/
def opBackWrong : ChangeSpec := { name := "opBack", fn := fun _ => fun
  | [d1, d2, d3, d4, d5] => { results := [.lit (.bool false)], args := [d1, d2, d3, d4, d5] }
  | _ => none }
def OpBackWrongFalsely : Prop := opBackRow.holds Try.pinned (OpenSpec.ofChange opBackWrong)

/-- 'herdsmanlaw26.OpCuts': WHATEVER THE INPUT: true; the input reads as it did. -/
def opCutsSpec : ChangeSpec := { name := "opCuts", fn := fun _ => fun
  | [d1, d2, d3, d4, d5] => { results := [.lit (.bool true)], args := [d1, d2, d3, d4, d5] }
  | _ => none }
def opCutsRow : OpenClaim := { program := "ytjndgflalbcngaa", sum := "aab0705abfbd790254f42dd6fb7d37a7e9663e915c2f1bb3d1046aa07d07f6ac", func := "herdsman/herdsmanlaw26.OpCuts", spec := "opCuts", apart := false }
def OpCutsSaid : Prop := opCutsRow.holds Try.pinned (OpenSpec.ofChange opCutsSpec)

/-- ITS FALSE NEIGHBOUR: 'it returns false'. Refute it at one input. -/
def opCutsWrong : ChangeSpec := { name := "opCuts", fn := fun _ => fun
  | [d1, d2, d3, d4, d5] => { results := [.lit (.bool false)], args := [d1, d2, d3, d4, d5] }
  | _ => none }
def OpCutsWrongFalsely : Prop := opCutsRow.holds Try.pinned (OpenSpec.ofChange opCutsWrong)

/- THE SECOND FORM. 'bulk': how many values and letters a reading holds, each counted each time it is reached (what is shared counts as often as it is met; a slice's spare places count too). A statement '..UptoSaid' is the law's where the arguments, and the package variables that the reading takes, are together of bulk at most 1048576: NARROWER than '..Said'. Prove '..Said' where nothing that the law and all that it calls make is longer than what came in: it says more and counts as full. Else prove '..UptoSaid'. A law counts once. -/
mutual
def uptoBulk {H : Type} : DataW H → Nat
  | .lit (.string bytes) => bytes.length + 1
  | .lit _ => 1
  | .nil => 1
  | .ptr d => uptoBulk d + 1
  | .slice elems spare => uptoBulkAll elems + uptoBulkAll spare + 1
  | .agg parts => uptoBulkAll parts + 1
  | .iface _ d => uptoBulk d + 1
  | .map entries => uptoBulkEntries entries + 1
  | .held _ => 1
def uptoBulkAll {H : Type} : List (DataW H) → Nat
  | [] => 0
  | d :: r => uptoBulk d + uptoBulkAll r
def uptoBulkEntries {H : Type} : List (Lit × DataW H) → Nat
  | [] => 0
  | x :: r => uptoBulkEntry x + uptoBulkEntries r
def uptoBulkEntry {H : Type} : Lit × DataW H → Nat
  | (.string bytes, d) => bytes.length + uptoBulk d + 1
  | (_, d) => uptoBulk d + 1
 end
def uptoSmall : (H : Type) → List (DataW H) → Bool := fun _ ds => decide (uptoBulkAll ds ≤ 1048576)
def OpenSpec.upto (s : _root_.Go.ChangeSpec) : _root_.Go.OpenSpec := { _root_.Go.OpenSpec.ofChange s with cond := some uptoSmall }

/-- 'herdsmanlaw26.OpReads', WHERE WHAT IT READS IS OF BULK AT MOST 1048576: true; the input reads as it did. -/
def opReadsUptoRow : OpenClaim := { program := "ytjndgflalbcngaa", sum := "aab0705abfbd790254f42dd6fb7d37a7e9663e915c2f1bb3d1046aa07d07f6ac", func := "herdsman/herdsmanlaw26.OpReads", spec := "opReads", apart := false, narrowed := true }
def OpReadsUptoSaid : Prop := opReadsUptoRow.holds Try.pinned (OpenSpec.upto opReadsSpec)

/-- 'herdsmanlaw26.OpAsks', WHERE WHAT IT READS IS OF BULK AT MOST 1048576: true; the input reads as it did. -/
def opAsksUptoRow : OpenClaim := { program := "ytjndgflalbcngaa", sum := "aab0705abfbd790254f42dd6fb7d37a7e9663e915c2f1bb3d1046aa07d07f6ac", func := "herdsman/herdsmanlaw26.OpAsks", spec := "opAsks", apart := false, narrowed := true }
def OpAsksUptoSaid : Prop := opAsksUptoRow.holds Try.pinned (OpenSpec.upto opAsksSpec)

/-- 'herdsmanlaw26.OpScripts', WHERE WHAT IT READS IS OF BULK AT MOST 1048576: true; the input reads as it did. -/
def opScriptsUptoRow : OpenClaim := { program := "ytjndgflalbcngaa", sum := "aab0705abfbd790254f42dd6fb7d37a7e9663e915c2f1bb3d1046aa07d07f6ac", func := "herdsman/herdsmanlaw26.OpScripts", spec := "opScripts", apart := false, narrowed := true }
def OpScriptsUptoSaid : Prop := opScriptsUptoRow.holds Try.pinned (OpenSpec.upto opScriptsSpec)

/-- 'herdsmanlaw26.OpBack', WHERE WHAT IT READS IS OF BULK AT MOST 1048576: true; the input reads as it did. -/
def opBackUptoRow : OpenClaim := { program := "ytjndgflalbcngaa", sum := "aab0705abfbd790254f42dd6fb7d37a7e9663e915c2f1bb3d1046aa07d07f6ac", func := "herdsman/herdsmanlaw26.OpBack", spec := "opBack", apart := false, narrowed := true }
def OpBackUptoSaid : Prop := opBackUptoRow.holds Try.pinned (OpenSpec.upto opBackSpec)

/-- 'herdsmanlaw26.OpCuts', WHERE WHAT IT READS IS OF BULK AT MOST 1048576: true; the input reads as it did. -/
def opCutsUptoRow : OpenClaim := { program := "ytjndgflalbcngaa", sum := "aab0705abfbd790254f42dd6fb7d37a7e9663e915c2f1bb3d1046aa07d07f6ac", func := "herdsman/herdsmanlaw26.OpCuts", spec := "opCuts", apart := false, narrowed := true }
def OpCutsUptoSaid : Prop := opCutsUptoRow.holds Try.pinned (OpenSpec.upto opCutsSpec)

end Rows
end Go.Proofs.Ytjndgflalbcngaa
