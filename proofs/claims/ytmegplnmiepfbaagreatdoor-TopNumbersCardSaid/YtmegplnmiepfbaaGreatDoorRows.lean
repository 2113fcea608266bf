/-
  NARROWER THAN 'FOR EVERY INPUT', by the rows' own cells (each row's printed sentence says how): TopCorridor: laid · TopIds: laid · TopLed: laid · TopFirst: laid · TopNumbers: laid · TopTicks: laid · TopTwins: laid.
  DERIVED. THE GIVEN ROWS OF THIS SEAT. 7 by the template 'for every input the law returns true; each argument reads behind the call as it read before'; 0 by the template 'total and deterministic' (their statements: YtmegplnmiepfbaaGreatDoorTotals.lean).
  GIVEN WITH THE SEED: the statements are not yours to turn. If you find one false, say at which input.
  Laid BY PROGRAM, IN A SANDBOX (cutbox-rows.mjs): the forced cells as the released guide's own fill.sh prints them over the translation 21e6e14691b4e6c2… (all of the seat's roots in one cut). By AI agents, Wed Nov 11 2026. No macro, syntax, notation, axiom, sorry.
-/
import Derived.Test.YtmegplnmiepfbaaGreatDoorChecked
import GoSem.Claim
import GoSem.ClaimJoined
import GoSem.ClaimMapViews
import Derived.JoinedTies
import Derived.KernelRfl
namespace Go.Proofs.YtmegplnmiepfbaaGreatDoor
/- THE CELL 'sum', in the pinned program and in every row, IS THE sha256 OF THE DUMP (.gsa) THAT YtmegplnmiepfbaaGreatDoorProg.lean LOADS. Nothing in Lean hashes anything: it is a label: what it is worth is what the hold of that sum in a sandbox is worth. -/
noncomputable def Tryz.pinned : Pinned := { name := "ytmegplnmiepfbaagreatdoor", sum := "21e6e14691b4e6c29c476af074113dbe2656003ac50cd0cadfef0c449fd18a8c", checked := Tryz.checked }
namespace Rows
def none {H : Type} : Left H := { results := [], args := [] }

/- WHAT THE LISTED PACKAGE-LEVEL VARIABLES READ AS WHEN THE CALL BEGINS. Each datum BY PROGRAM (the guide's laid-datum.mjs) off the statement by which the dump's own 'gosem.cut.vars' lays the variable. In a bare row this is a premise. The card (YtmegplnmiepfbaaGreatDoorCards.lean) ties it to the program's text. -/
def laid_errors_errorType {H : Type} : DataW H := .iface "internal/reflectlite.rtype" (.agg [.ptr (.lit (.string [101, 114, 114, 111, 114]))])
def laid_herdsman_pack_errEnd {H : Type} : DataW H := .iface "*errors.errorString" (.ptr (.agg [.lit (.string [116, 104, 101, 32, 98, 121, 116, 101, 115, 32, 101, 110, 100])]))
def laid_herdsman_pack_errForm {H : Type} : DataW H := .iface "*errors.errorString" (.ptr (.agg [.lit (.string [110, 111, 98, 111, 100, 121, 32, 119, 114, 105, 116, 101, 115, 32, 115, 111])]))
def laid_herdsman_nav_errNoMap {H : Type} : DataW H := .iface "*errors.errorString" (.ptr (.agg [.lit (.string [116, 104, 101, 114, 101, 32, 105, 115, 32, 110, 111, 32, 109, 97, 112])]))
def laid_herdsman_nav_errBounds {H : Type} : DataW H := .iface "*errors.errorString" (.ptr (.agg [.lit (.string [116, 104, 101, 114, 101, 32, 105, 115, 32, 110, 111, 32, 115, 117, 99, 104, 32, 99, 101, 108, 108, 32, 111, 114, 32, 115, 101, 99, 116, 111, 114])]))
def laid_herdsman_nav_errField {H : Type} : DataW H := .iface "*errors.errorString" (.ptr (.agg [.lit (.string [116, 104, 101, 114, 101, 32, 105, 115, 32, 110, 111, 32, 115, 117, 99, 104, 32, 102, 105, 101, 108, 100])]))
def laid_herdsman_svc_errScript {H : Type} : DataW H := .iface "*errors.errorString" (.ptr (.agg [.lit (.string [110, 111, 98, 111, 100, 121, 32, 119, 114, 105, 116, 101, 115, 32, 115, 111])]))

/-- 'herdsmantop.TopCorridor': WHATEVER THE INPUT: true; the input reads as it did. -/
def topCorridorSpec : ChangeSpec := { name := "topCorridor", fn := fun _ => fun
  | [d1, d2, d3, d4] => { results := [.lit (.bool true)], args := [d1, d2, d3, d4] }
  | _ => none }
def topCorridorRow : OpenClaim := { program := "ytmegplnmiepfbaagreatdoor", sum := "21e6e14691b4e6c29c476af074113dbe2656003ac50cd0cadfef0c449fd18a8c", func := "herdsman/herdsmantop.TopCorridor", spec := "topCorridor", inPlace := ["internal/bytealg.MakeNoZero", "internal/reflectlite.TypeOf", "internal/reflectlite.ValueOf", "(internal/reflectlite.Value).Type", "(internal/reflectlite.Value).IsNil", "(internal/reflectlite.Value).Elem", "(internal/reflectlite.Value).Set"], unfollowed := true, recurses := true, named := ["herdsman/svc.errScript", "herdsman/pack.errForm", "herdsman/pack.errEnd", "errors.errorType", "herdsman/nav.errNoMap", "herdsman/nav.errBounds", "herdsman/nav.errField"], plainKeys := false, apart := false, laid := [("errors.errorType", laid_errors_errorType), ("herdsman/pack.errEnd", laid_herdsman_pack_errEnd), ("herdsman/pack.errForm", laid_herdsman_pack_errForm), ("herdsman/nav.errNoMap", laid_herdsman_nav_errNoMap), ("herdsman/nav.errBounds", laid_herdsman_nav_errBounds), ("herdsman/nav.errField", laid_herdsman_nav_errField), ("herdsman/svc.errScript", laid_herdsman_svc_errScript)] }
def TopCorridorSaid : Prop := topCorridorRow.holds Tryz.pinned (OpenSpec.ofChange topCorridorSpec)

/-- ITS FALSE NEIGHBOUR: 'it returns false'. Refute it at one input. -/
def topCorridorWrong : ChangeSpec := { name := "topCorridor", fn := fun _ => fun
  | [d1, d2, d3, d4] => { results := [.lit (.bool false)], args := [d1, d2, d3, d4] }
  | _ => none }
def TopCorridorWrongFalsely : Prop := topCorridorRow.holds Tryz.pinned (OpenSpec.ofChange topCorridorWrong)

/-- 'herdsmantop.TopIds': WHATEVER THE INPUT: true; the input reads as it did. -/
def topIdsSpec : ChangeSpec := { name := "topIds", fn := fun _ => fun
  | [d1, d2, d3, d4] => { results := [.lit (.bool true)], args := [d1, d2, d3, d4] }
  | _ => none }
def topIdsRow : OpenClaim := { program := "ytmegplnmiepfbaagreatdoor", sum := "21e6e14691b4e6c29c476af074113dbe2656003ac50cd0cadfef0c449fd18a8c", func := "herdsman/herdsmantop.TopIds", spec := "topIds", inPlace := ["internal/bytealg.MakeNoZero", "internal/reflectlite.TypeOf", "internal/reflectlite.ValueOf", "(internal/reflectlite.Value).Type", "(internal/reflectlite.Value).IsNil", "(internal/reflectlite.Value).Elem", "(internal/reflectlite.Value).Set"], unfollowed := true, recurses := true, named := ["herdsman/svc.errScript", "herdsman/pack.errForm", "herdsman/pack.errEnd", "errors.errorType", "herdsman/nav.errNoMap", "herdsman/nav.errBounds", "herdsman/nav.errField"], plainKeys := false, apart := false, laid := [("errors.errorType", laid_errors_errorType), ("herdsman/pack.errEnd", laid_herdsman_pack_errEnd), ("herdsman/pack.errForm", laid_herdsman_pack_errForm), ("herdsman/nav.errNoMap", laid_herdsman_nav_errNoMap), ("herdsman/nav.errBounds", laid_herdsman_nav_errBounds), ("herdsman/nav.errField", laid_herdsman_nav_errField), ("herdsman/svc.errScript", laid_herdsman_svc_errScript)] }
def TopIdsSaid : Prop := topIdsRow.holds Tryz.pinned (OpenSpec.ofChange topIdsSpec)

/-- ITS FALSE NEIGHBOUR: 'it returns false'. Refute it at one input. -/
def topIdsWrong : ChangeSpec := { name := "topIds", fn := fun _ => fun
  | [d1, d2, d3, d4] => { results := [.lit (.bool false)], args := [d1, d2, d3, d4] }
  | _ => none }
def TopIdsWrongFalsely : Prop := topIdsRow.holds Tryz.pinned (OpenSpec.ofChange topIdsWrong)

/-- 'herdsmantop.TopLed': WHATEVER THE INPUT: true; the input reads as it did. -/
def topLedSpec : ChangeSpec := { name := "topLed", fn := fun _ => fun
  | [d1, d2, d3, d4, d5, d6, d7] => { results := [.lit (.bool true)], args := [d1, d2, d3, d4, d5, d6, d7] }
  | _ => none }
def topLedRow : OpenClaim := { program := "ytmegplnmiepfbaagreatdoor", sum := "21e6e14691b4e6c29c476af074113dbe2656003ac50cd0cadfef0c449fd18a8c", func := "herdsman/herdsmantop.TopLed", spec := "topLed", inPlace := ["internal/bytealg.MakeNoZero", "internal/reflectlite.TypeOf", "internal/reflectlite.ValueOf", "(internal/reflectlite.Value).Type", "(internal/reflectlite.Value).IsNil", "(internal/reflectlite.Value).Elem", "(internal/reflectlite.Value).Set"], unfollowed := true, recurses := true, named := ["herdsman/svc.errScript", "herdsman/pack.errForm", "herdsman/pack.errEnd", "errors.errorType", "herdsman/nav.errNoMap", "herdsman/nav.errBounds", "herdsman/nav.errField"], plainKeys := false, apart := false, laid := [("errors.errorType", laid_errors_errorType), ("herdsman/pack.errEnd", laid_herdsman_pack_errEnd), ("herdsman/pack.errForm", laid_herdsman_pack_errForm), ("herdsman/nav.errNoMap", laid_herdsman_nav_errNoMap), ("herdsman/nav.errBounds", laid_herdsman_nav_errBounds), ("herdsman/nav.errField", laid_herdsman_nav_errField), ("herdsman/svc.errScript", laid_herdsman_svc_errScript)] }
def TopLedSaid : Prop := topLedRow.holds Tryz.pinned (OpenSpec.ofChange topLedSpec)

/-- ITS FALSE NEIGHBOUR: 'it returns false'. Refute it at one input. -/
def topLedWrong : ChangeSpec := { name := "topLed", fn := fun _ => fun
  | [d1, d2, d3, d4, d5, d6, d7] => { results := [.lit (.bool false)], args := [d1, d2, d3, d4, d5, d6, d7] }
  | _ => none }
def TopLedWrongFalsely : Prop := topLedRow.holds Tryz.pinned (OpenSpec.ofChange topLedWrong)

/-- 'herdsmantop.TopFirst': WHATEVER THE INPUT: true; the input reads as it did. -/
def topFirstSpec : ChangeSpec := { name := "topFirst", fn := fun _ => fun
  | [d1, d2, d3, d4, d5, d6] => { results := [.lit (.bool true)], args := [d1, d2, d3, d4, d5, d6] }
  | _ => none }
def topFirstRow : OpenClaim := { program := "ytmegplnmiepfbaagreatdoor", sum := "21e6e14691b4e6c29c476af074113dbe2656003ac50cd0cadfef0c449fd18a8c", func := "herdsman/herdsmantop.TopFirst", spec := "topFirst", inPlace := ["internal/bytealg.MakeNoZero", "internal/reflectlite.TypeOf", "internal/reflectlite.ValueOf", "(internal/reflectlite.Value).Type", "(internal/reflectlite.Value).IsNil", "(internal/reflectlite.Value).Elem", "(internal/reflectlite.Value).Set"], unfollowed := true, recurses := true, named := ["herdsman/svc.errScript", "herdsman/pack.errForm", "herdsman/pack.errEnd", "errors.errorType", "herdsman/nav.errNoMap", "herdsman/nav.errBounds", "herdsman/nav.errField"], plainKeys := false, apart := false, laid := [("errors.errorType", laid_errors_errorType), ("herdsman/pack.errEnd", laid_herdsman_pack_errEnd), ("herdsman/pack.errForm", laid_herdsman_pack_errForm), ("herdsman/nav.errNoMap", laid_herdsman_nav_errNoMap), ("herdsman/nav.errBounds", laid_herdsman_nav_errBounds), ("herdsman/nav.errField", laid_herdsman_nav_errField), ("herdsman/svc.errScript", laid_herdsman_svc_errScript)] }
def TopFirstSaid : Prop := topFirstRow.holds Tryz.pinned (OpenSpec.ofChange topFirstSpec)

/-- ITS FALSE NEIGHBOUR: 'it returns false'. Refute it at one input. -/
def topFirstWrong : ChangeSpec := { name := "topFirst", fn := fun _ => fun
  | [d1, d2, d3, d4, d5, d6] => { results := [.lit (.bool false)], args := [d1, d2, d3, d4, d5, d6] }
  | _ => none }
def TopFirstWrongFalsely : Prop := topFirstRow.holds Tryz.pinned (OpenSpec.ofChange topFirstWrong)

/-- 'herdsmantop.TopNumbers': WHATEVER THE INPUT: true; the input reads as it did. -/
def topNumbersSpec : ChangeSpec := { name := "topNumbers", fn := fun _ => fun
  | [d1, d2, d3, d4] => { results := [.lit (.bool true)], args := [d1, d2, d3, d4] }
  | _ => none }
def topNumbersRow : OpenClaim := { program := "ytmegplnmiepfbaagreatdoor", sum := "21e6e14691b4e6c29c476af074113dbe2656003ac50cd0cadfef0c449fd18a8c", func := "herdsman/herdsmantop.TopNumbers", spec := "topNumbers", inPlace := ["internal/bytealg.MakeNoZero", "internal/reflectlite.TypeOf", "internal/reflectlite.ValueOf", "(internal/reflectlite.Value).Type", "(internal/reflectlite.Value).IsNil", "(internal/reflectlite.Value).Elem", "(internal/reflectlite.Value).Set"], unfollowed := true, recurses := true, named := ["herdsman/svc.errScript", "herdsman/pack.errForm", "herdsman/pack.errEnd", "errors.errorType", "herdsman/nav.errNoMap", "herdsman/nav.errBounds", "herdsman/nav.errField"], plainKeys := false, apart := false, laid := [("errors.errorType", laid_errors_errorType), ("herdsman/pack.errEnd", laid_herdsman_pack_errEnd), ("herdsman/pack.errForm", laid_herdsman_pack_errForm), ("herdsman/nav.errNoMap", laid_herdsman_nav_errNoMap), ("herdsman/nav.errBounds", laid_herdsman_nav_errBounds), ("herdsman/nav.errField", laid_herdsman_nav_errField), ("herdsman/svc.errScript", laid_herdsman_svc_errScript)] }
def TopNumbersSaid : Prop := topNumbersRow.holds Tryz.pinned (OpenSpec.ofChange topNumbersSpec)

/-- ITS FALSE NEIGHBOUR: 'it returns false'. Refute it at one input. -/
def topNumbersWrong : ChangeSpec := { name := "topNumbers", fn := fun _ => fun
  | [d1, d2, d3, d4] => { results := [.lit (.bool false)], args := [d1, d2, d3, d4] }
  | _ => none }
def TopNumbersWrongFalsely : Prop := topNumbersRow.holds Tryz.pinned (OpenSpec.ofChange topNumbersWrong)

/-- 'herdsmantop.TopTicks': WHATEVER THE INPUT: true; the input reads as it did. -/
def topTicksSpec : ChangeSpec := { name := "topTicks", fn := fun _ => fun
  | [d1, d2, d3, d4, d5] => { results := [.lit (.bool true)], args := [d1, d2, d3, d4, d5] }
  | _ => none }
def topTicksRow : OpenClaim := { program := "ytmegplnmiepfbaagreatdoor", sum := "21e6e14691b4e6c29c476af074113dbe2656003ac50cd0cadfef0c449fd18a8c", func := "herdsman/herdsmantop.TopTicks", spec := "topTicks", inPlace := ["internal/bytealg.MakeNoZero", "internal/reflectlite.TypeOf", "internal/reflectlite.ValueOf", "(internal/reflectlite.Value).Type", "(internal/reflectlite.Value).IsNil", "(internal/reflectlite.Value).Elem", "(internal/reflectlite.Value).Set"], unfollowed := true, recurses := true, named := ["herdsman/svc.errScript", "herdsman/pack.errForm", "herdsman/pack.errEnd", "errors.errorType", "herdsman/nav.errNoMap", "herdsman/nav.errBounds", "herdsman/nav.errField"], plainKeys := false, apart := false, laid := [("errors.errorType", laid_errors_errorType), ("herdsman/pack.errEnd", laid_herdsman_pack_errEnd), ("herdsman/pack.errForm", laid_herdsman_pack_errForm), ("herdsman/nav.errNoMap", laid_herdsman_nav_errNoMap), ("herdsman/nav.errBounds", laid_herdsman_nav_errBounds), ("herdsman/nav.errField", laid_herdsman_nav_errField), ("herdsman/svc.errScript", laid_herdsman_svc_errScript)] }
def TopTicksSaid : Prop := topTicksRow.holds Tryz.pinned (OpenSpec.ofChange topTicksSpec)

/-- ITS FALSE NEIGHBOUR: 'it returns false'. Refute it at one input. -/
def topTicksWrong : ChangeSpec := { name := "topTicks", fn := fun _ => fun
  | [d1, d2, d3, d4, d5] => { results := [.lit (.bool false)], args := [d1, d2, d3, d4, d5] }
  | _ => none }
def TopTicksWrongFalsely : Prop := topTicksRow.holds Tryz.pinned (OpenSpec.ofChange topTicksWrong)

/-- 'herdsmantop.TopTwins': WHATEVER THE INPUT: true; the input reads as it did. -/
def topTwinsSpec : ChangeSpec := { name := "topTwins", fn := fun _ => fun
  | [d1, d2, d3, d4, d5] => { results := [.lit (.bool true)], args := [d1, d2, d3, d4, d5] }
  | _ => none }
def topTwinsRow : OpenClaim := { program := "ytmegplnmiepfbaagreatdoor", sum := "21e6e14691b4e6c29c476af074113dbe2656003ac50cd0cadfef0c449fd18a8c", func := "herdsman/herdsmantop.TopTwins", spec := "topTwins", inPlace := ["internal/bytealg.MakeNoZero", "internal/reflectlite.TypeOf", "internal/reflectlite.ValueOf", "(internal/reflectlite.Value).Type", "(internal/reflectlite.Value).IsNil", "(internal/reflectlite.Value).Elem", "(internal/reflectlite.Value).Set"], unfollowed := true, recurses := true, named := ["herdsman/svc.errScript", "herdsman/pack.errForm", "herdsman/pack.errEnd", "errors.errorType", "herdsman/nav.errNoMap", "herdsman/nav.errBounds", "herdsman/nav.errField"], plainKeys := false, apart := false, laid := [("errors.errorType", laid_errors_errorType), ("herdsman/pack.errEnd", laid_herdsman_pack_errEnd), ("herdsman/pack.errForm", laid_herdsman_pack_errForm), ("herdsman/nav.errNoMap", laid_herdsman_nav_errNoMap), ("herdsman/nav.errBounds", laid_herdsman_nav_errBounds), ("herdsman/nav.errField", laid_herdsman_nav_errField), ("herdsman/svc.errScript", laid_herdsman_svc_errScript)] }
def TopTwinsSaid : Prop := topTwinsRow.holds Tryz.pinned (OpenSpec.ofChange topTwinsSpec)

/-- ITS FALSE NEIGHBOUR: 'it returns false'. Refute it at one input. -/
def topTwinsWrong : ChangeSpec := { name := "topTwins", fn := fun _ => fun
  | [d1, d2, d3, d4, d5] => { results := [.lit (.bool false)], args := [d1, d2, d3, d4, d5] }
  | _ => none }
def TopTwinsWrongFalsely : Prop := topTwinsRow.holds Tryz.pinned (OpenSpec.ofChange topTwinsWrong)

/- THE SECOND FORM. 'bulk': how many values and letters a reading holds, each counted each time it is reached (what is shared counts as often as it is met; a slice's spare places count too). A statement '..UptoSaid' is the law's where the arguments, and the package variables that the reading takes, are together of bulk at most 1048576: NARROWER than '..Said'. Prove '..Said' where nothing that the law and all that it calls make is longer than what came in: it says more and counts as full. Else prove '..UptoSaid'. A law counts once. -/
mutual
def uptoBulk {H : Type} : DataW H → Nat
  | .lit (.string bytes) => bytes.length + 1
  | .lit _ => 1
  | .nil => 1
  | .ptr d => uptoBulk d + 1
  | .slice elems spare => uptoBulkAll elems + uptoBulkAll spare + 1
  | .agg parts => uptoBulkAll parts + 1
  | .iface _ d => uptoBulk d + 1
  | .map entries => uptoBulkEntries entries + 1
  | .held _ => 1
def uptoBulkAll {H : Type} : List (DataW H) → Nat
  | [] => 0
  | d :: r => uptoBulk d + uptoBulkAll r
def uptoBulkEntries {H : Type} : List (Lit × DataW H) → Nat
  | [] => 0
  | x :: r => uptoBulkEntry x + uptoBulkEntries r
def uptoBulkEntry {H : Type} : Lit × DataW H → Nat
  | (.string bytes, d) => bytes.length + uptoBulk d + 1
  | (_, d) => uptoBulk d + 1
 end
def uptoSmall : (H : Type) → List (DataW H) → Bool := fun _ ds => decide (uptoBulkAll ds ≤ 1048576)
def OpenSpec.upto (s : _root_.Go.ChangeSpec) : _root_.Go.OpenSpec := { _root_.Go.OpenSpec.ofChange s with cond := some uptoSmall }

/-- 'herdsmantop.TopCorridor', WHERE WHAT IT READS IS OF BULK AT MOST 1048576: true; the input reads as it did. -/
def topCorridorUptoRow : OpenClaim := { program := "ytmegplnmiepfbaagreatdoor", sum := "21e6e14691b4e6c29c476af074113dbe2656003ac50cd0cadfef0c449fd18a8c", func := "herdsman/herdsmantop.TopCorridor", spec := "topCorridor", inPlace := ["internal/bytealg.MakeNoZero", "internal/reflectlite.TypeOf", "internal/reflectlite.ValueOf", "(internal/reflectlite.Value).Type", "(internal/reflectlite.Value).IsNil", "(internal/reflectlite.Value).Elem", "(internal/reflectlite.Value).Set"], unfollowed := true, recurses := true, named := ["herdsman/svc.errScript", "herdsman/pack.errForm", "herdsman/pack.errEnd", "errors.errorType", "herdsman/nav.errNoMap", "herdsman/nav.errBounds", "herdsman/nav.errField"], plainKeys := false, apart := false, laid := [("errors.errorType", laid_errors_errorType), ("herdsman/pack.errEnd", laid_herdsman_pack_errEnd), ("herdsman/pack.errForm", laid_herdsman_pack_errForm), ("herdsman/nav.errNoMap", laid_herdsman_nav_errNoMap), ("herdsman/nav.errBounds", laid_herdsman_nav_errBounds), ("herdsman/nav.errField", laid_herdsman_nav_errField), ("herdsman/svc.errScript", laid_herdsman_svc_errScript)], narrowed := true }
def TopCorridorUptoSaid : Prop := topCorridorUptoRow.holds Tryz.pinned (OpenSpec.upto topCorridorSpec)

/-- 'herdsmantop.TopIds', WHERE WHAT IT READS IS OF BULK AT MOST 1048576: true; the input reads as it did. -/
def topIdsUptoRow : OpenClaim := { program := "ytmegplnmiepfbaagreatdoor", sum := "21e6e14691b4e6c29c476af074113dbe2656003ac50cd0cadfef0c449fd18a8c", func := "herdsman/herdsmantop.TopIds", spec := "topIds", inPlace := ["internal/bytealg.MakeNoZero", "internal/reflectlite.TypeOf", "internal/reflectlite.ValueOf", "(internal/reflectlite.Value).Type", "(internal/reflectlite.Value).IsNil", "(internal/reflectlite.Value).Elem", "(internal/reflectlite.Value).Set"], unfollowed := true, recurses := true, named := ["herdsman/svc.errScript", "herdsman/pack.errForm", "herdsman/pack.errEnd", "errors.errorType", "herdsman/nav.errNoMap", "herdsman/nav.errBounds", "herdsman/nav.errField"], plainKeys := false, apart := false, laid := [("errors.errorType", laid_errors_errorType), ("herdsman/pack.errEnd", laid_herdsman_pack_errEnd), ("herdsman/pack.errForm", laid_herdsman_pack_errForm), ("herdsman/nav.errNoMap", laid_herdsman_nav_errNoMap), ("herdsman/nav.errBounds", laid_herdsman_nav_errBounds), ("herdsman/nav.errField", laid_herdsman_nav_errField), ("herdsman/svc.errScript", laid_herdsman_svc_errScript)], narrowed := true }
def TopIdsUptoSaid : Prop := topIdsUptoRow.holds Tryz.pinned (OpenSpec.upto topIdsSpec)

/-- 'herdsmantop.TopLed', WHERE WHAT IT READS IS OF BULK AT MOST 1048576: true; the input reads as it did. -/
def topLedUptoRow : OpenClaim := { program := "ytmegplnmiepfbaagreatdoor", sum := "21e6e14691b4e6c29c476af074113dbe2656003ac50cd0cadfef0c449fd18a8c", func := "herdsman/herdsmantop.TopLed", spec := "topLed", inPlace := ["internal/bytealg.MakeNoZero", "internal/reflectlite.TypeOf", "internal/reflectlite.ValueOf", "(internal/reflectlite.Value).Type", "(internal/reflectlite.Value).IsNil", "(internal/reflectlite.Value).Elem", "(internal/reflectlite.Value).Set"], unfollowed := true, recurses := true, named := ["herdsman/svc.errScript", "herdsman/pack.errForm", "herdsman/pack.errEnd", "errors.errorType", "herdsman/nav.errNoMap", "herdsman/nav.errBounds", "herdsman/nav.errField"], plainKeys := false, apart := false, laid := [("errors.errorType", laid_errors_errorType), ("herdsman/pack.errEnd", laid_herdsman_pack_errEnd), ("herdsman/pack.errForm", laid_herdsman_pack_errForm), ("herdsman/nav.errNoMap", laid_herdsman_nav_errNoMap), ("herdsman/nav.errBounds", laid_herdsman_nav_errBounds), ("herdsman/nav.errField", laid_herdsman_nav_errField), ("herdsman/svc.errScript", laid_herdsman_svc_errScript)], narrowed := true }
def TopLedUptoSaid : Prop := topLedUptoRow.holds Tryz.pinned (OpenSpec.upto topLedSpec)

/-- 'herdsmantop.TopFirst', WHERE WHAT IT READS IS OF BULK AT MOST 1048576: true; the input reads as it did. -/
def topFirstUptoRow : OpenClaim := { program := "ytmegplnmiepfbaagreatdoor", sum := "21e6e14691b4e6c29c476af074113dbe2656003ac50cd0cadfef0c449fd18a8c", func := "herdsman/herdsmantop.TopFirst", spec := "topFirst", inPlace := ["internal/bytealg.MakeNoZero", "internal/reflectlite.TypeOf", "internal/reflectlite.ValueOf", "(internal/reflectlite.Value).Type", "(internal/reflectlite.Value).IsNil", "(internal/reflectlite.Value).Elem", "(internal/reflectlite.Value).Set"], unfollowed := true, recurses := true, named := ["herdsman/svc.errScript", "herdsman/pack.errForm", "herdsman/pack.errEnd", "errors.errorType", "herdsman/nav.errNoMap", "herdsman/nav.errBounds", "herdsman/nav.errField"], plainKeys := false, apart := false, laid := [("errors.errorType", laid_errors_errorType), ("herdsman/pack.errEnd", laid_herdsman_pack_errEnd), ("herdsman/pack.errForm", laid_herdsman_pack_errForm), ("herdsman/nav.errNoMap", laid_herdsman_nav_errNoMap), ("herdsman/nav.errBounds", laid_herdsman_nav_errBounds), ("herdsman/nav.errField", laid_herdsman_nav_errField), ("herdsman/svc.errScript", laid_herdsman_svc_errScript)], narrowed := true }
def TopFirstUptoSaid : Prop := topFirstUptoRow.holds Tryz.pinned (OpenSpec.upto topFirstSpec)

/-- 'herdsmantop.TopNumbers', WHERE WHAT IT READS IS OF BULK AT MOST 1048576: true; the input reads as it did. -/
def topNumbersUptoRow : OpenClaim := { program := "ytmegplnmiepfbaagreatdoor", sum := "21e6e14691b4e6c29c476af074113dbe2656003ac50cd0cadfef0c449fd18a8c", func := "herdsman/herdsmantop.TopNumbers", spec := "topNumbers", inPlace := ["internal/bytealg.MakeNoZero", "internal/reflectlite.TypeOf", "internal/reflectlite.ValueOf", "(internal/reflectlite.Value).Type", "(internal/reflectlite.Value).IsNil", "(internal/reflectlite.Value).Elem", "(internal/reflectlite.Value).Set"], unfollowed := true, recurses := true, named := ["herdsman/svc.errScript", "herdsman/pack.errForm", "herdsman/pack.errEnd", "errors.errorType", "herdsman/nav.errNoMap", "herdsman/nav.errBounds", "herdsman/nav.errField"], plainKeys := false, apart := false, laid := [("errors.errorType", laid_errors_errorType), ("herdsman/pack.errEnd", laid_herdsman_pack_errEnd), ("herdsman/pack.errForm", laid_herdsman_pack_errForm), ("herdsman/nav.errNoMap", laid_herdsman_nav_errNoMap), ("herdsman/nav.errBounds", laid_herdsman_nav_errBounds), ("herdsman/nav.errField", laid_herdsman_nav_errField), ("herdsman/svc.errScript", laid_herdsman_svc_errScript)], narrowed := true }
def TopNumbersUptoSaid : Prop := topNumbersUptoRow.holds Tryz.pinned (OpenSpec.upto topNumbersSpec)

/-- 'herdsmantop.TopTicks', WHERE WHAT IT READS IS OF BULK AT MOST 1048576: true; the input reads as it did. -/
def topTicksUptoRow : OpenClaim := { program := "ytmegplnmiepfbaagreatdoor", sum := "21e6e14691b4e6c29c476af074113dbe2656003ac50cd0cadfef0c449fd18a8c", func := "herdsman/herdsmantop.TopTicks", spec := "topTicks", inPlace := ["internal/bytealg.MakeNoZero", "internal/reflectlite.TypeOf", "internal/reflectlite.ValueOf", "(internal/reflectlite.Value).Type", "(internal/reflectlite.Value).IsNil", "(internal/reflectlite.Value).Elem", "(internal/reflectlite.Value).Set"], unfollowed := true, recurses := true, named := ["herdsman/svc.errScript", "herdsman/pack.errForm", "herdsman/pack.errEnd", "errors.errorType", "herdsman/nav.errNoMap", "herdsman/nav.errBounds", "herdsman/nav.errField"], plainKeys := false, apart := false, laid := [("errors.errorType", laid_errors_errorType), ("herdsman/pack.errEnd", laid_herdsman_pack_errEnd), ("herdsman/pack.errForm", laid_herdsman_pack_errForm), ("herdsman/nav.errNoMap", laid_herdsman_nav_errNoMap), ("herdsman/nav.errBounds", laid_herdsman_nav_errBounds), ("herdsman/nav.errField", laid_herdsman_nav_errField), ("herdsman/svc.errScript", laid_herdsman_svc_errScript)], narrowed := true }
def TopTicksUptoSaid : Prop := topTicksUptoRow.holds Tryz.pinned (OpenSpec.upto topTicksSpec)

/-- 'herdsmantop.TopTwins', WHERE WHAT IT READS IS OF BULK AT MOST 1048576: true; the input reads as it did. -/
def topTwinsUptoRow : OpenClaim := { program := "ytmegplnmiepfbaagreatdoor", sum := "21e6e14691b4e6c29c476af074113dbe2656003ac50cd0cadfef0c449fd18a8c", func := "herdsman/herdsmantop.TopTwins", spec := "topTwins", inPlace := ["internal/bytealg.MakeNoZero", "internal/reflectlite.TypeOf", "internal/reflectlite.ValueOf", "(internal/reflectlite.Value).Type", "(internal/reflectlite.Value).IsNil", "(internal/reflectlite.Value).Elem", "(internal/reflectlite.Value).Set"], unfollowed := true, recurses := true, named := ["herdsman/svc.errScript", "herdsman/pack.errForm", "herdsman/pack.errEnd", "errors.errorType", "herdsman/nav.errNoMap", "herdsman/nav.errBounds", "herdsman/nav.errField"], plainKeys := false, apart := false, laid := [("errors.errorType", laid_errors_errorType), ("herdsman/pack.errEnd", laid_herdsman_pack_errEnd), ("herdsman/pack.errForm", laid_herdsman_pack_errForm), ("herdsman/nav.errNoMap", laid_herdsman_nav_errNoMap), ("herdsman/nav.errBounds", laid_herdsman_nav_errBounds), ("herdsman/nav.errField", laid_herdsman_nav_errField), ("herdsman/svc.errScript", laid_herdsman_svc_errScript)], narrowed := true }
def TopTwinsUptoSaid : Prop := topTwinsUptoRow.holds Tryz.pinned (OpenSpec.upto topTwinsSpec)

end Rows
end Go.Proofs.YtmegplnmiepfbaaGreatDoor
