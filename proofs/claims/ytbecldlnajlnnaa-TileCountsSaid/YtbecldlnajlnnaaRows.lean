/-
  No cell of these rows narrows 'for every input' (looked for: loops, veiled, ifaces, maps, wideKeys, modest, calm, conditions, laid).
  DERIVED. THE GIVEN ROWS OF THIS SEAT. 5 by the template 'for every input the law returns true; each argument reads behind the call as it read before'; 0 by the template 'total and deterministic' (their statements: YtbecldlnajlnnaaTotals.lean).
  GIVEN WITH THE SEED: the statements are not yours to turn. If you find one false, say at which input.
  Laid BY PROGRAM, IN A SANDBOX (cutbox-rows.mjs): the forced cells as the released guide's own fill.sh prints them over the translation 331afe1cc12cf457… (all of the seat's roots in one cut). By AI agents, Wed Nov 11 2026. No macro, syntax, notation, axiom, sorry.
-/
import Derived.Test.YtbecldlnajlnnaaChecked
import GoSem.Claim
import GoSem.ClaimJoined
import GoSem.ClaimMapViews
import Derived.JoinedTies
import Derived.KernelRfl
namespace Go.Proofs.Ytbecldlnajlnnaa
/- THE CELL 'sum', in the pinned program and in every row, IS THE sha256 OF THE DUMP (.gsa) THAT YtbecldlnajlnnaaProg.lean LOADS. Nothing in Lean hashes anything: it is a label: what it is worth is what the hold of that sum in a sandbox is worth. -/
noncomputable def Try.pinned : Pinned := { name := "ytbecldlnajlnnaa", sum := "331afe1cc12cf457468709706d19a494dc72c73034ea5c1bc3d40afdf436906e", checked := Try.checked }
namespace Rows
def none {H : Type} : Left H := { results := [], args := [] }

/-- 'herdsmanlaw2.TileAsks': WHATEVER THE INPUT: true; the input reads as it did. -/
def tileAsksSpec : ChangeSpec := { name := "tileAsks", fn := fun _ => fun
  | [d1, d2, d3, d4, d5, d6] => { results := [.lit (.bool true)], args := [d1, d2, d3, d4, d5, d6] }
  | _ => none }
def tileAsksRow : OpenClaim := { program := "ytbecldlnajlnnaa", sum := "331afe1cc12cf457468709706d19a494dc72c73034ea5c1bc3d40afdf436906e", func := "herdsman/herdsmanlaw2.TileAsks", spec := "tileAsks", apart := false }
def TileAsksSaid : Prop := tileAsksRow.holds Try.pinned (OpenSpec.ofChange tileAsksSpec)

/-- ITS FALSE NEIGHBOUR: 'it returns false'. Refute it at one input. -/
def tileAsksWrong : ChangeSpec := { name := "tileAsks", fn := fun _ => fun
  | [d1, d2, d3, d4, d5, d6] => { results := [.lit (.bool false)], args := [d1, d2, d3, d4, d5, d6] }
  | _ => none }
def TileAsksWrongFalsely : Prop := tileAsksRow.holds Try.pinned (OpenSpec.ofChange tileAsksWrong)

/-- 'herdsmanlaw2.TileMates': WHATEVER THE INPUT: true; the input reads as it did. -/
def tileMatesSpec : ChangeSpec := { name := "tileMates", fn := fun _ => fun
  | [d1, d2, d3, d4] => { results := [.lit (.bool true)], args := [d1, d2, d3, d4] }
  | _ => none }
def tileMatesRow : OpenClaim := { program := "ytbecldlnajlnnaa", sum := "331afe1cc12cf457468709706d19a494dc72c73034ea5c1bc3d40afdf436906e", func := "herdsman/herdsmanlaw2.TileMates", spec := "tileMates", apart := false }
def TileMatesSaid : Prop := tileMatesRow.holds Try.pinned (OpenSpec.ofChange tileMatesSpec)

/-- ITS FALSE NEIGHBOUR: 'it returns false'. Refute it at one input. -/
def tileMatesWrong : ChangeSpec := { name := "tileMates", fn := fun _ => fun
  | [d1, d2, d3, d4] => { results := [.lit (.bool false)], args := [d1, d2, d3, d4] }
  | _ => none }
def TileMatesWrongFalsely : Prop := tileMatesRow.holds Try.pinned (OpenSpec.ofChange tileMatesWrong)

/-- 'herdsmanlaw2.TileSame': WHATEVER THE INPUT: true; the input reads as it did. -/
def tileSameSpec : ChangeSpec := { name := "tileSame", fn := fun _ => fun
  | [d1, d2, d3, d4, d5] => { results := [.lit (.bool true)], args := [d1, d2, d3, d4, d5] }
  | _ => none }
def tileSameRow : OpenClaim := { program := "ytbecldlnajlnnaa", sum := "331afe1cc12cf457468709706d19a494dc72c73034ea5c1bc3d40afdf436906e", func := "herdsman/herdsmanlaw2.TileSame", spec := "tileSame", apart := false }
def TileSameSaid : Prop := tileSameRow.holds Try.pinned (OpenSpec.ofChange tileSameSpec)

/-- ITS FALSE NEIGHBOUR: 'it returns false'. Refute it at one input. -/
def tileSameWrong : ChangeSpec := { name := "tileSame", fn := fun _ => fun
  | [d1, d2, d3, d4, d5] => { results := [.lit (.bool false)], args := [d1, d2, d3, d4, d5] }
  | _ => none }
def TileSameWrongFalsely : Prop := tileSameRow.holds Try.pinned (OpenSpec.ofChange tileSameWrong)

/-- 'herdsmanlaw2.TileLays': WHATEVER THE INPUT: true; the input reads as it did. -/
def tileLaysSpec : ChangeSpec := { name := "tileLays", fn := fun _ => fun
  | [d1, d2, d3, d4, d5, d6] => { results := [.lit (.bool true)], args := [d1, d2, d3, d4, d5, d6] }
  | _ => none }
def tileLaysRow : OpenClaim := { program := "ytbecldlnajlnnaa", sum := "331afe1cc12cf457468709706d19a494dc72c73034ea5c1bc3d40afdf436906e", func := "herdsman/herdsmanlaw2.TileLays", spec := "tileLays", apart := false }
def TileLaysSaid : Prop := tileLaysRow.holds Try.pinned (OpenSpec.ofChange tileLaysSpec)

/-- ITS FALSE NEIGHBOUR: 'it returns false'. Refute it at one input. -/
def tileLaysWrong : ChangeSpec := { name := "tileLays", fn := fun _ => fun
  | [d1, d2, d3, d4, d5, d6] => { results := [.lit (.bool false)], args := [d1, d2, d3, d4, d5, d6] }
  | _ => none }
def TileLaysWrongFalsely : Prop := tileLaysRow.holds Try.pinned (OpenSpec.ofChange tileLaysWrong)

/-- 'herdsmanlaw2.TileCounts': WHATEVER THE INPUT: true; the input reads as it did. -/
def tileCountsSpec : ChangeSpec := { name := "tileCounts", fn := fun _ => fun
  | [d1, d2, d3, d4] => { results := [.lit (.bool true)], args := [d1, d2, d3, d4] }
  | _ => none }
def tileCountsRow : OpenClaim := { program := "ytbecldlnajlnnaa", sum := "331afe1cc12cf457468709706d19a494dc72c73034ea5c1bc3d40afdf436906e", func := "herdsman/herdsmanlaw2.TileCounts", spec := "tileCounts", apart := false }
def TileCountsSaid : Prop := tileCountsRow.holds Try.pinned (OpenSpec.ofChange tileCountsSpec)

/-- ITS FALSE NEIGHBOUR: 'it returns false'. Refute it at one input. -/
def tileCountsWrong : ChangeSpec := { name := "tileCounts", fn := fun _ => fun
  | [d1, d2, d3, d4] => { results := [.lit (.bool false)], args := [d1, d2, d3, d4] }
  | _ => none }
def TileCountsWrongFalsely : Prop := tileCountsRow.holds Try.pinned (OpenSpec.ofChange tileCountsWrong)

/- THE SECOND FORM. 'bulk': how many values and letters a reading holds, each counted each time it is reached (what is shared counts as often as it is met; a slice's spare places count too). A statement '..UptoSaid' is the law's where the arguments, and the package variables that the reading takes, are together of bulk at most 1048576: NARROWER than '..Said'. Prove '..Said' where nothing that the law and all that it calls make is longer than what came in: it says more and counts as full. Else prove '..UptoSaid'. A law counts once. -/
mutual
def uptoBulk {H : Type} : DataW H → Nat
  | .lit (.string bytes) => bytes.length + 1
  | .lit _ => 1
  | .nil => 1
  | .ptr d => uptoBulk d + 1
  | .slice elems spare => uptoBulkAll elems + uptoBulkAll spare + 1
  | .agg parts => uptoBulkAll parts + 1
  | .iface _ d => uptoBulk d + 1
  | .map entries => uptoBulkEntries entries + 1
  | .held _ => 1
def uptoBulkAll {H : Type} : List (DataW H) → Nat
  | [] => 0
  | d :: r => uptoBulk d + uptoBulkAll r
def uptoBulkEntries {H : Type} : List (Lit × DataW H) → Nat
  | [] => 0
  | x :: r => uptoBulkEntry x + uptoBulkEntries r
def uptoBulkEntry {H : Type} : Lit × DataW H → Nat
  | (.string bytes, d) => bytes.length + uptoBulk d + 1
  | (_, d) => uptoBulk d + 1
 end
def uptoSmall : (H : Type) → List (DataW H) → Bool := fun _ ds => decide (uptoBulkAll ds ≤ 1048576)
def OpenSpec.upto (s : _root_.Go.ChangeSpec) : _root_.Go.OpenSpec := { _root_.Go.OpenSpec.ofChange s with cond := some uptoSmall }

/-- 'herdsmanlaw2.TileAsks', WHERE WHAT IT READS IS OF BULK AT MOST 1048576: true; the input reads as it did. -/
def tileAsksUptoRow : OpenClaim := { program := "ytbecldlnajlnnaa", sum := "331afe1cc12cf457468709706d19a494dc72c73034ea5c1bc3d40afdf436906e", func := "herdsman/herdsmanlaw2.TileAsks", spec := "tileAsks", apart := false, narrowed := true }
def TileAsksUptoSaid : Prop := tileAsksUptoRow.holds Try.pinned (OpenSpec.upto tileAsksSpec)

/-- 'herdsmanlaw2.TileMates', WHERE WHAT IT READS IS OF BULK AT MOST 1048576: true; the input reads as it did. -/
def tileMatesUptoRow : OpenClaim := { program := "ytbecldlnajlnnaa", sum := "331afe1cc12cf457468709706d19a494dc72c73034ea5c1bc3d40afdf436906e", func := "herdsman/herdsmanlaw2.TileMates", spec := "tileMates", apart := false, narrowed := true }
def TileMatesUptoSaid : Prop := tileMatesUptoRow.holds Try.pinned (OpenSpec.upto tileMatesSpec)

/-- 'herdsmanlaw2.TileSame', WHERE WHAT IT READS IS OF BULK AT MOST 1048576: true; the input reads as it did. -/
def tileSameUptoRow : OpenClaim := { program := "ytbecldlnajlnnaa", sum := "331afe1cc12cf457468709706d19a494dc72c73034ea5c1bc3d40afdf436906e", func := "herdsman/herdsmanlaw2.TileSame", spec := "tileSame", apart := false, narrowed := true }
def TileSameUptoSaid : Prop := tileSameUptoRow.holds Try.pinned (OpenSpec.upto tileSameSpec)

/-- 'herdsmanlaw2.TileLays', WHERE WHAT IT READS IS OF BULK AT MOST 1048576: true; the input reads as it did. -/
def tileLaysUptoRow : OpenClaim := { program := "ytbecldlnajlnnaa", sum := "331afe1cc12cf457468709706d19a494dc72c73034ea5c1bc3d40afdf436906e", func := "herdsman/herdsmanlaw2.TileLays", spec := "tileLays", apart := false, narrowed := true }
def TileLaysUptoSaid : Prop := tileLaysUptoRow.holds Try.pinned (OpenSpec.upto tileLaysSpec)

/-- 'herdsmanlaw2.TileCounts', WHERE WHAT IT READS IS OF BULK AT MOST 1048576: true; the input reads as it did. -/
def tileCountsUptoRow : OpenClaim := { program := "ytbecldlnajlnnaa", sum := "331afe1cc12cf457468709706d19a494dc72c73034ea5c1bc3d40afdf436906e", func := "herdsman/herdsmanlaw2.TileCounts", spec := "tileCounts", apart := false, narrowed := true }
def TileCountsUptoSaid : Prop := tileCountsUptoRow.holds Try.pinned (OpenSpec.upto tileCountsSpec)

end Rows
end Go.Proofs.Ytbecldlnajlnnaa
