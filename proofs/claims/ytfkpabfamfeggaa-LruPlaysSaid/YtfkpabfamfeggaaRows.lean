/-
  No cell of these rows narrows 'for every input' (looked for: loops, veiled, ifaces, maps, wideKeys, modest, calm, conditions, laid).
  DERIVED. THE GIVEN ROWS OF THIS SEAT. 5 by the template 'for every input the law returns true; each argument reads behind the call as it read before'; 0 by the template 'total and deterministic' (their statements: YtfkpabfamfeggaaTotals.lean).
  GIVEN WITH THE SEED: the statements are not yours to turn. If you find one false, say at which input.
  Laid BY PROGRAM, IN A SANDBOX (cutbox-rows.mjs): the forced cells as the released guide's own fill.sh prints them over the translation f0c79bec102f4c58… (all of the seat's roots in one cut). By AI agents, Wed Nov 11 2026. No macro, syntax, notation, axiom, sorry.
-/
import Derived.Test.YtfkpabfamfeggaaChecked
import GoSem.Claim
import GoSem.ClaimJoined
import GoSem.ClaimMapViews
import Derived.JoinedTies
import Derived.KernelRfl
namespace Go.Proofs.Ytfkpabfamfeggaa
/- THE CELL 'sum', in the pinned program and in every row, IS THE sha256 OF THE DUMP (.gsa) THAT YtfkpabfamfeggaaProg.lean LOADS. Nothing in Lean hashes anything: it is a label: what it is worth is what the hold of that sum in a sandbox is worth. -/
noncomputable def Try.pinned : Pinned := { name := "ytfkpabfamfeggaa", sum := "f0c79bec102f4c58d11b791e2a3d2300236671438461883d008dbb778dc236e1", checked := Try.checked }
namespace Rows
def none {H : Type} : Left H := { results := [], args := [] }

/-- 'herdsmanlaw18.LruLast': WHATEVER THE INPUT: true; the input reads as it did. -/
def lruLastSpec : ChangeSpec := { name := "lruLast", fn := fun _ => fun
  | [d1, d2] => { results := [.lit (.bool true)], args := [d1, d2] }
  | _ => none }
def lruLastRow : OpenClaim := { program := "ytfkpabfamfeggaa", sum := "f0c79bec102f4c58d11b791e2a3d2300236671438461883d008dbb778dc236e1", func := "herdsman/herdsmanlaw18.LruLast", spec := "lruLast", plainKeys := false, apart := false }
def LruLastSaid : Prop := lruLastRow.holds Try.pinned (OpenSpec.ofChange lruLastSpec)

/-- ITS FALSE NEIGHBOUR: 'it returns false'. Refute it at one input. -/
def lruLastWrong : ChangeSpec := { name := "lruLast", fn := fun _ => fun
  | [d1, d2] => { results := [.lit (.bool false)], args := [d1, d2] }
  | _ => none }
def LruLastWrongFalsely : Prop := lruLastRow.holds Try.pinned (OpenSpec.ofChange lruLastWrong)

/-- 'herdsmanlaw18.LruPlays': WHATEVER THE INPUT: true; the input reads as it did. -/
def lruPlaysSpec : ChangeSpec := { name := "lruPlays", fn := fun _ => fun
  | [d1, d2, d3] => { results := [.lit (.bool true)], args := [d1, d2, d3] }
  | _ => none }
def lruPlaysRow : OpenClaim := { program := "ytfkpabfamfeggaa", sum := "f0c79bec102f4c58d11b791e2a3d2300236671438461883d008dbb778dc236e1", func := "herdsman/herdsmanlaw18.LruPlays", spec := "lruPlays", plainKeys := false, apart := false }
def LruPlaysSaid : Prop := lruPlaysRow.holds Try.pinned (OpenSpec.ofChange lruPlaysSpec)

/-- ITS FALSE NEIGHBOUR: 'it returns false'. Refute it at one input. -/
def lruPlaysWrong : ChangeSpec := { name := "lruPlays", fn := fun _ => fun
  | [d1, d2, d3] => { results := [.lit (.bool false)], args := [d1, d2, d3] }
  | _ => none }
def LruPlaysWrongFalsely : Prop := lruPlaysRow.holds Try.pinned (OpenSpec.ofChange lruPlaysWrong)

/-- 'herdsmanlaw18.LruSlots': WHATEVER THE INPUT: true; the input reads as it did. -/
def lruSlotsSpec : ChangeSpec := { name := "lruSlots", fn := fun _ => fun
  | [d1, d2] => { results := [.lit (.bool true)], args := [d1, d2] }
  | _ => none }
def lruSlotsRow : OpenClaim := { program := "ytfkpabfamfeggaa", sum := "f0c79bec102f4c58d11b791e2a3d2300236671438461883d008dbb778dc236e1", func := "herdsman/herdsmanlaw18.LruSlots", spec := "lruSlots", plainKeys := false, apart := false }
def LruSlotsSaid : Prop := lruSlotsRow.holds Try.pinned (OpenSpec.ofChange lruSlotsSpec)

/-- ITS FALSE NEIGHBOUR: 'it returns false'. Refute it at one input. -/
def lruSlotsWrong : ChangeSpec := { name := "lruSlots", fn := fun _ => fun
  | [d1, d2] => { results := [.lit (.bool false)], args := [d1, d2] }
  | _ => none }
def LruSlotsWrongFalsely : Prop := lruSlotsRow.holds Try.pinned (OpenSpec.ofChange lruSlotsWrong)

/-- 'herdsmanlaw18.LruHuge': WHATEVER THE INPUT: true; the input reads as it did. -/
def lruHugeSpec : ChangeSpec := { name := "lruHuge", fn := fun _ => fun
  | [d1, d2] => { results := [.lit (.bool true)], args := [d1, d2] }
  | _ => none }
def lruHugeRow : OpenClaim := { program := "ytfkpabfamfeggaa", sum := "f0c79bec102f4c58d11b791e2a3d2300236671438461883d008dbb778dc236e1", func := "herdsman/herdsmanlaw18.LruHuge", spec := "lruHuge", plainKeys := false, apart := false }
def LruHugeSaid : Prop := lruHugeRow.holds Try.pinned (OpenSpec.ofChange lruHugeSpec)

/-- ITS FALSE NEIGHBOUR: 'it returns false'. Refute it at one input. -/
def lruHugeWrong : ChangeSpec := { name := "lruHuge", fn := fun _ => fun
  | [d1, d2] => { results := [.lit (.bool false)], args := [d1, d2] }
  | _ => none }
def LruHugeWrongFalsely : Prop := lruHugeRow.holds Try.pinned (OpenSpec.ofChange lruHugeWrong)

/-- 'herdsmanlaw18.LruNone': WHATEVER THE INPUT: true; the input reads as it did. -/
def lruNoneSpec : ChangeSpec := { name := "lruNone", fn := fun _ => fun
  | [d1, d2] => { results := [.lit (.bool true)], args := [d1, d2] }
  | _ => none }
def lruNoneRow : OpenClaim := { program := "ytfkpabfamfeggaa", sum := "f0c79bec102f4c58d11b791e2a3d2300236671438461883d008dbb778dc236e1", func := "herdsman/herdsmanlaw18.LruNone", spec := "lruNone", plainKeys := false, apart := false }
def LruNoneSaid : Prop := lruNoneRow.holds Try.pinned (OpenSpec.ofChange lruNoneSpec)

/-- ITS FALSE NEIGHBOUR: 'it returns false'. Refute it at one input. -/
def lruNoneWrong : ChangeSpec := { name := "lruNone", fn := fun _ => fun
  | [d1, d2] => { results := [.lit (.bool false)], args := [d1, d2] }
  | _ => none }
def LruNoneWrongFalsely : Prop := lruNoneRow.holds Try.pinned (OpenSpec.ofChange lruNoneWrong)

/- THE SECOND FORM. 'bulk': how many values and letters a reading holds, each counted each time it is reached (what is shared counts as often as it is met; a slice's spare places count too). A statement '..UptoSaid' is the law's where the arguments, and the package variables that the reading takes, are together of bulk at most 1048576: NARROWER than '..Said'. Prove '..Said' where nothing that the law and all that it calls make is longer than what came in: it says more and counts as full. Else prove '..UptoSaid'. A law counts once. -/
mutual
def uptoBulk {H : Type} : DataW H → Nat
  | .lit (.string bytes) => bytes.length + 1
  | .lit _ => 1
  | .nil => 1
  | .ptr d => uptoBulk d + 1
  | .slice elems spare => uptoBulkAll elems + uptoBulkAll spare + 1
  | .agg parts => uptoBulkAll parts + 1
  | .iface _ d => uptoBulk d + 1
  | .map entries => uptoBulkEntries entries + 1
  | .held _ => 1
def uptoBulkAll {H : Type} : List (DataW H) → Nat
  | [] => 0
  | d :: r => uptoBulk d + uptoBulkAll r
def uptoBulkEntries {H : Type} : List (Lit × DataW H) → Nat
  | [] => 0
  | x :: r => uptoBulkEntry x + uptoBulkEntries r
def uptoBulkEntry {H : Type} : Lit × DataW H → Nat
  | (.string bytes, d) => bytes.length + uptoBulk d + 1
  | (_, d) => uptoBulk d + 1
 end
def uptoSmall : (H : Type) → List (DataW H) → Bool := fun _ ds => decide (uptoBulkAll ds ≤ 1048576)
def OpenSpec.upto (s : _root_.Go.ChangeSpec) : _root_.Go.OpenSpec := { _root_.Go.OpenSpec.ofChange s with cond := some uptoSmall }

/-- 'herdsmanlaw18.LruLast', WHERE WHAT IT READS IS OF BULK AT MOST 1048576: true; the input reads as it did. -/
def lruLastUptoRow : OpenClaim := { program := "ytfkpabfamfeggaa", sum := "f0c79bec102f4c58d11b791e2a3d2300236671438461883d008dbb778dc236e1", func := "herdsman/herdsmanlaw18.LruLast", spec := "lruLast", plainKeys := false, apart := false, narrowed := true }
def LruLastUptoSaid : Prop := lruLastUptoRow.holds Try.pinned (OpenSpec.upto lruLastSpec)

/-- 'herdsmanlaw18.LruPlays', WHERE WHAT IT READS IS OF BULK AT MOST 1048576: true; the input reads as it did. -/
def lruPlaysUptoRow : OpenClaim := { program := "ytfkpabfamfeggaa", sum := "f0c79bec102f4c58d11b791e2a3d2300236671438461883d008dbb778dc236e1", func := "herdsman/herdsmanlaw18.LruPlays", spec := "lruPlays", plainKeys := false, apart := false, narrowed := true }
def LruPlaysUptoSaid : Prop := lruPlaysUptoRow.holds Try.pinned (OpenSpec.upto lruPlaysSpec)

/-- 'herdsmanlaw18.LruSlots', WHERE WHAT IT READS IS OF BULK AT MOST 1048576: true; the input reads as it did. -/
def lruSlotsUptoRow : OpenClaim := { program := "ytfkpabfamfeggaa", sum := "f0c79bec102f4c58d11b791e2a3d2300236671438461883d008dbb778dc236e1", func := "herdsman/herdsmanlaw18.LruSlots", spec := "lruSlots", plainKeys := false, apart := false, narrowed := true }
def LruSlotsUptoSaid : Prop := lruSlotsUptoRow.holds Try.pinned (OpenSpec.upto lruSlotsSpec)

/-- 'herdsmanlaw18.LruHuge', WHERE WHAT IT READS IS OF BULK AT MOST 1048576: true; the input reads as it did. -/
def lruHugeUptoRow : OpenClaim := { program := "ytfkpabfamfeggaa", sum := "f0c79bec102f4c58d11b791e2a3d2300236671438461883d008dbb778dc236e1", func := "herdsman/herdsmanlaw18.LruHuge", spec := "lruHuge", plainKeys := false, apart := false, narrowed := true }
def LruHugeUptoSaid : Prop := lruHugeUptoRow.holds Try.pinned (OpenSpec.upto lruHugeSpec)

/-- 'herdsmanlaw18.LruNone', WHERE WHAT IT READS IS OF BULK AT MOST 1048576: true; the input reads as it did. -/
def lruNoneUptoRow : OpenClaim := { program := "ytfkpabfamfeggaa", sum := "f0c79bec102f4c58d11b791e2a3d2300236671438461883d008dbb778dc236e1", func := "herdsman/herdsmanlaw18.LruNone", spec := "lruNone", plainKeys := false, apart := false, narrowed := true }
def LruNoneUptoSaid : Prop := lruNoneUptoRow.holds Try.pinned (OpenSpec.upto lruNoneSpec)

end Rows
end Go.Proofs.Ytfkpabfamfeggaa
