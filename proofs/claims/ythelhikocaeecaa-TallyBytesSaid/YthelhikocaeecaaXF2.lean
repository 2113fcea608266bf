/- What the bodies ask, and that a call is no more. Printed by a program of this work (sxgen.py) out of the translation. -/
import Derived.Test.YthelhikocaeecaaXT
set_option linter.unusedVariables false
set_option linter.unusedSimpArgs false
namespace Go.Proofs.Ythelhikocaeecaa.S
open Go.Sx
/-! ### 7 herdsman/herdsmanlaw6.TallySums -/
def herdsmanlaw6_TallySums.sh (a_Rebuilds : Int) (a_Searches : Int) (a_Builds : Int) (a_Hits : Int) (a_Stale : Int) (a_Evicts : Int) (b_Rebuilds : Int) (b_Searches : Int) (b_Builds : Int) (b_Hits : Int) (b_Stale : Int) (b_Evicts : Int) (w : World) (Q : Bool → World → Prop) : Prop :=
  Bx [.int .u64 a_Rebuilds, .int .u64 a_Searches, .int .u64 a_Builds, .int .u64 a_Hits, .int .u64 a_Stale, .int .u64 a_Evicts] 28 w fun a_b w0_1 =>
  Bx [.int .u64 b_Rebuilds, .int .u64 b_Searches, .int .u64 b_Builds, .int .u64 b_Hits, .int .u64 b_Stale, .int .u64 b_Evicts] 28 w0_1 fun b_b w0_2 =>
  LdI .u64 (a_b.add 0) w0_2 fun x6_Rebuilds =>
  LdI .u64 (a_b.add 1) w0_2 fun x6_Searches =>
  LdI .u64 (a_b.add 2) w0_2 fun x6_Builds =>
  LdI .u64 (a_b.add 3) w0_2 fun x6_Hits =>
  LdI .u64 (a_b.add 4) w0_2 fun x6_Stale =>
  LdI .u64 (a_b.add 5) w0_2 fun x6_Evicts =>
  LdI .u64 (b_b.add 0) w0_2 fun x7_Rebuilds =>
  LdI .u64 (b_b.add 1) w0_2 fun x7_Searches =>
  LdI .u64 (b_b.add 2) w0_2 fun x7_Builds =>
  LdI .u64 (b_b.add 3) w0_2 fun x7_Hits =>
  LdI .u64 (b_b.add 4) w0_2 fun x7_Stale =>
  LdI .u64 (b_b.add 5) w0_2 fun x7_Evicts =>
  tally_Sum.call x6_Rebuilds x6_Searches x6_Builds x6_Hits x6_Stale x6_Evicts x7_Rebuilds x7_Searches x7_Builds x7_Hits x7_Stale x7_Evicts w0_2 fun r8_0 r8_1 r8_2 r8_3 r8_4 r8_5 w0_3 =>
  Al T 28 w0_3 fun x w0_4 =>
  St (x.add 0) (.int .u64 r8_0) w0_4 fun w0_5 =>
  St (x.add 1) (.int .u64 r8_1) w0_5 fun w0_6 =>
  St (x.add 2) (.int .u64 r8_2) w0_6 fun w0_7 =>
  St (x.add 3) (.int .u64 r8_3) w0_7 fun w0_8 =>
  St (x.add 4) (.int .u64 r8_4) w0_8 fun w0_9 =>
  St (x.add 5) (.int .u64 r8_5) w0_9 fun w0_10 =>
  herdsmanlaw6_told.call w0_10.drew fun r9 w0_11 =>
  cond r9
  (LdI .u64 x w0_11 fun x12 =>
  LdI .u64 a_b w0_11 fun x14 =>
  LdI .u64 b_b w0_11 fun x16 =>
  tally_Add.call x14 x16 w0_11 fun r17 w0_12 =>
  w0_12.cell? x = some (.int .u64 x12) ∧
  cond (x12 == r17)
  (LdI .u64 (x.add 1) w0_12 fun x22 =>
  LdI .u64 (a_b.add 1) w0_12 fun x24 =>
  LdI .u64 (b_b.add 1) w0_12 fun x26 =>
  tally_Add.call x24 x26 w0_12 fun r27 w0_13 =>
  w0_13.cell? (x.add 1) = some (.int .u64 x22) ∧
  cond (x22 == r27)
  (LdI .u64 (x.add 2) w0_13 fun x32 =>
  LdI .u64 (a_b.add 2) w0_13 fun x34 =>
  LdI .u64 (b_b.add 2) w0_13 fun x36 =>
  tally_Add.call x34 x36 w0_13 fun r37 w0_14 =>
  w0_14.cell? (x.add 2) = some (.int .u64 x32) ∧
  cond (x32 == r37)
  (LdI .u64 (x.add 3) w0_14 fun x42 =>
  LdI .u64 (a_b.add 3) w0_14 fun x44 =>
  LdI .u64 (b_b.add 3) w0_14 fun x46 =>
  tally_Add.call x44 x46 w0_14 fun r47 w0_15 =>
  w0_15.cell? (x.add 3) = some (.int .u64 x42) ∧
  cond (x42 == r47)
  (LdI .u64 (x.add 4) w0_15 fun x52 =>
  LdI .u64 (a_b.add 4) w0_15 fun x54 =>
  LdI .u64 (b_b.add 4) w0_15 fun x56 =>
  tally_Add.call x54 x56 w0_15 fun r57 w0_16 =>
  w0_16.cell? (x.add 4) = some (.int .u64 x52) ∧
  cond (x52 == r57)
  (LdI .u64 (x.add 5) w0_16 fun x62 =>
  LdI .u64 (a_b.add 5) w0_16 fun x64 =>
  LdI .u64 (b_b.add 5) w0_16 fun x66 =>
  tally_Add.call x64 x66 w0_16 fun r67 w0_17 =>
  w0_17.cell? (x.add 5) = some (.int .u64 x62) ∧
  cond (x62 == r67)
  (LdI .u64 (a_b.add 0) w0_17 fun x71_Rebuilds =>
  LdI .u64 (a_b.add 1) w0_17 fun x71_Searches =>
  LdI .u64 (a_b.add 2) w0_17 fun x71_Builds =>
  LdI .u64 (a_b.add 3) w0_17 fun x71_Hits =>
  LdI .u64 (a_b.add 4) w0_17 fun x71_Stale =>
  LdI .u64 (a_b.add 5) w0_17 fun x71_Evicts =>
  LdI .u64 (x.add 0) w0_17 fun x72_Rebuilds =>
  LdI .u64 (x.add 1) w0_17 fun x72_Searches =>
  LdI .u64 (x.add 2) w0_17 fun x72_Builds =>
  LdI .u64 (x.add 3) w0_17 fun x72_Hits =>
  LdI .u64 (x.add 4) w0_17 fun x72_Stale =>
  LdI .u64 (x.add 5) w0_17 fun x72_Evicts =>
  tally_Below.call x71_Rebuilds x71_Searches x71_Builds x71_Hits x71_Stale x71_Evicts x72_Rebuilds x72_Searches x72_Builds x72_Hits x72_Stale x72_Evicts w0_17 fun r73 w0_18 =>
  cond r73
  (LdI .u64 (b_b.add 0) w0_18 fun x76_Rebuilds =>
  LdI .u64 (b_b.add 1) w0_18 fun x76_Searches =>
  LdI .u64 (b_b.add 2) w0_18 fun x76_Builds =>
  LdI .u64 (b_b.add 3) w0_18 fun x76_Hits =>
  LdI .u64 (b_b.add 4) w0_18 fun x76_Stale =>
  LdI .u64 (b_b.add 5) w0_18 fun x76_Evicts =>
  LdI .u64 (x.add 0) w0_18 fun x77_Rebuilds =>
  LdI .u64 (x.add 1) w0_18 fun x77_Searches =>
  LdI .u64 (x.add 2) w0_18 fun x77_Builds =>
  LdI .u64 (x.add 3) w0_18 fun x77_Hits =>
  LdI .u64 (x.add 4) w0_18 fun x77_Stale =>
  LdI .u64 (x.add 5) w0_18 fun x77_Evicts =>
  tally_Below.call x76_Rebuilds x76_Searches x76_Builds x76_Hits x76_Stale x76_Evicts x77_Rebuilds x77_Searches x77_Builds x77_Hits x77_Stale x77_Evicts w0_18 fun r78 w0_19 =>
  cond r78
  (LdI .u64 (x.add 0) w0_19 fun x81_Rebuilds =>
  LdI .u64 (x.add 1) w0_19 fun x81_Searches =>
  LdI .u64 (x.add 2) w0_19 fun x81_Builds =>
  LdI .u64 (x.add 3) w0_19 fun x81_Hits =>
  LdI .u64 (x.add 4) w0_19 fun x81_Stale =>
  LdI .u64 (x.add 5) w0_19 fun x81_Evicts =>
  LdI .u64 (b_b.add 0) w0_19 fun x82_Rebuilds =>
  LdI .u64 (b_b.add 1) w0_19 fun x82_Searches =>
  LdI .u64 (b_b.add 2) w0_19 fun x82_Builds =>
  LdI .u64 (b_b.add 3) w0_19 fun x82_Hits =>
  LdI .u64 (b_b.add 4) w0_19 fun x82_Stale =>
  LdI .u64 (b_b.add 5) w0_19 fun x82_Evicts =>
  LdI .u64 (a_b.add 0) w0_19 fun x83_Rebuilds =>
  LdI .u64 (a_b.add 1) w0_19 fun x83_Searches =>
  LdI .u64 (a_b.add 2) w0_19 fun x83_Builds =>
  LdI .u64 (a_b.add 3) w0_19 fun x83_Hits =>
  LdI .u64 (a_b.add 4) w0_19 fun x83_Stale =>
  LdI .u64 (a_b.add 5) w0_19 fun x83_Evicts =>
  tally_Sum.call x82_Rebuilds x82_Searches x82_Builds x82_Hits x82_Stale x82_Evicts x83_Rebuilds x83_Searches x83_Builds x83_Hits x83_Stale x83_Evicts w0_19 fun r84_0 r84_1 r84_2 r84_3 r84_4 r84_5 w0_20 =>
  w0_20.cell? (x.add 0) = some (.int .u64 x81_Rebuilds) ∧
  w0_20.cell? (x.add 1) = some (.int .u64 x81_Searches) ∧
  w0_20.cell? (x.add 2) = some (.int .u64 x81_Builds) ∧
  w0_20.cell? (x.add 3) = some (.int .u64 x81_Hits) ∧
  w0_20.cell? (x.add 4) = some (.int .u64 x81_Stale) ∧
  w0_20.cell? (x.add 5) = some (.int .u64 x81_Evicts) ∧
  EqK P .eql 28 (.tmp 81) (.tmp 84) (.agg #[.int .u64 x81_Rebuilds, .int .u64 x81_Searches, .int .u64 x81_Builds, .int .u64 x81_Hits, .int .u64 x81_Stale, .int .u64 x81_Evicts]) (.agg #[.int .u64 r84_0, .int .u64 r84_1, .int .u64 r84_2, .int .u64 r84_3, .int .u64 r84_4, .int .u64 r84_5]) w0_20 fun b w0_21 =>
  Q b w0_21)
  (Q false w0_19))
  (Q false w0_18))
  (Q false w0_17))
  (Q false w0_16))
  (Q false w0_15))
  (Q false w0_14))
  (Q false w0_13))
  (Q false w0_12))
  (Q false w0_11)
noncomputable def herdsmanlaw6_TallySums.scr : Scrs := [(2, .op 0 (.op 1 (.op 2 (.op 3 (.op 4 (.op 5 (.op 6 (.op 7 (.op 8 (.op 9 (.op 10 (.op 11 (.op 12 (.op 13 (.op 14 (.op 15 (.op 16 (.op 17 (.op 18 (.op 19 (.op 20 (.op 21 (.op 22 (.op 23 (.op 24 (.op 25 (.op 26 (.op 27 (.op 28 (.op 29 (.op 30 (.op 31 (.op 32 (.op 33 (.op 34 (.op 35 (.op 36 (.op 37 (.op 38 (.op 39 (.op 40 (.op 41 (.op 42 (.op 43 (.op 44 (.op 45 (.op 46 (.op 47 (.op 48 (.op 49 (.op 50 (.op 51 (.op 52 (.op 53 (.op 54 (.op 55 (.op 56 (.op 57 (.op 58 (.op 59 (.op 60 (.op 61 (.op 62 (.op 63 (.op 64 (.op 65 (.op 66 (.op 67 (.op 68 (.op 69 (.op 70 (.op 71 (.op 72 (.op 73 (.op 74 (.op 75 (.op 76 (.op 77 (.op 78 .done)))))))))))))))))))))))))))))))))))))))))))))))))))))))))))))))))))))))))))))))]
def herdsmanlaw6_TallySums.R (Q : Bool → World → Prop) (ρ : Env) (w : World) : Prop := evRes (cx 87) Go.Proofs.Try.f7.results.toList ρ w fun vs => herdsmanlaw6_TallySums.qv Q (resV vs) w
set_option maxRecDepth 100000 in
theorem herdsmanlaw6_TallySums.body (a_Rebuilds : Int) (a_Searches : Int) (a_Builds : Int) (a_Hits : Int) (a_Stale : Int) (a_Evicts : Int) (b_Rebuilds : Int) (b_Searches : Int) (b_Builds : Int) (b_Hits : Int) (b_Stale : Int) (b_Evicts : Int) (w : World) (Q : Bool → World → Prop) (h : herdsmanlaw6_TallySums.sh a_Rebuilds a_Searches a_Builds a_Hits a_Stale a_Evicts b_Rebuilds b_Searches b_Builds b_Hits b_Stale b_Evicts w Q) : herdsmanlaw6_TallySums.call a_Rebuilds a_Searches a_Builds a_Hits a_Stale a_Evicts b_Rebuilds b_Searches b_Builds b_Hits b_Stale b_Evicts w Q := by
  refine call_fn (ok 87) (fn := Go.Proofs.Try.f7) (args := [.agg #[.int .u64 a_Rebuilds, .int .u64 a_Searches, .int .u64 a_Builds, .int .u64 a_Hits, .int .u64 a_Stale, .int .u64 a_Evicts], .agg #[.int .u64 b_Rebuilds, .int .u64 b_Searches, .int .u64 b_Builds, .int .u64 b_Hits, .int .u64 b_Stale, .int .u64 b_Evicts]]) (K := herdsmanlaw6_TallySums.qv Q) Go.Proofs.Try.func7 (by kernel_rfl) (by kernel_rfl) (by kernel_rfl) ?_
  refine evT_sound (ok 87) (drawD_sound (ok 87) herdsmanlaw6_TallySums.scr) 600 (L := []) (leaf_of (fn := Go.Proofs.Try.f7) [] (by kernel_rfl) trivial) (castK h (by kernel_rfl))
end Go.Proofs.Ythelhikocaeecaa.S
