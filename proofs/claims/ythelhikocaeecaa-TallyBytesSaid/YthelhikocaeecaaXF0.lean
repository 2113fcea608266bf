/- What the bodies ask, and that a call is no more. Printed by a program of this work (sxgen.py) out of the translation. -/
import Derived.Test.YthelhikocaeecaaXT
set_option linter.unusedVariables false
set_option linter.unusedSimpArgs false
namespace Go.Proofs.Ythelhikocaeecaa.S
open Go.Sx
/-! ### 8 herdsman/tally.Add -/
def tally_Add.sh (a : Int) (b : Int) (w : World) (Q : Int → World → Prop) : Prop :=
  cond (decide (a > (IntKind.wrap .u64 (18446744073709551615 - b))))
  (Q 18446744073709551615 w)
  (Q (IntKind.wrap .u64 (a + b)) w)
noncomputable def tally_Add.scr : Scrs := []
def tally_Add.R (Q : Int → World → Prop) (ρ : Env) (w : World) : Prop := evRes (cx 12) Go.Proofs.Try.f8.results.toList ρ w fun vs => tally_Add.qv Q (resV vs) w
set_option maxRecDepth 100000 in
theorem tally_Add.body (a : Int) (b : Int) (w : World) (Q : Int → World → Prop) (h : tally_Add.sh a b w Q) : tally_Add.call a b w Q := by
  refine call_fn (ok 12) (fn := Go.Proofs.Try.f8) (args := [.int .u64 a, .int .u64 b]) (K := tally_Add.qv Q) Go.Proofs.Try.func8 (by kernel_rfl) (by kernel_rfl) (by kernel_rfl) ?_
  refine evT_sound (ok 12) (drawD_sound (ok 12) tally_Add.scr) 600 (L := []) (leaf_of (fn := Go.Proofs.Try.f8) [] (by kernel_rfl) trivial) (castK h (by kernel_rfl))
/-! ### 9 herdsman/herdsmanlaw6.told -/
def herdsmanlaw6_told.sh (w : World) (Q : Bool → World → Prop) : Prop :=
  tally_Add.call 18446744073709551615 5 w fun r1 w0_1 =>
  cond (r1 == 18446744073709551615)
  (tally_Add.call 2 3 w0_1 fun r4 w0_2 =>
  Q (r4 == 5) w0_2)
  (Q false w0_1)
noncomputable def herdsmanlaw6_told.scr : Scrs := []
def herdsmanlaw6_told.R (Q : Bool → World → Prop) (ρ : Env) (w : World) : Prop := evRes (cx 7) Go.Proofs.Try.f9.results.toList ρ w fun vs => herdsmanlaw6_told.qv Q (resV vs) w
set_option maxRecDepth 100000 in
theorem herdsmanlaw6_told.body (w : World) (Q : Bool → World → Prop) (h : herdsmanlaw6_told.sh w Q) : herdsmanlaw6_told.call w Q := by
  refine call_fn (ok 7) (fn := Go.Proofs.Try.f9) (args := []) (K := herdsmanlaw6_told.qv Q) Go.Proofs.Try.func9 (by kernel_rfl) (by kernel_rfl) (by kernel_rfl) ?_
  refine evT_sound (ok 7) (drawD_sound (ok 7) herdsmanlaw6_told.scr) 600 (L := []) (leaf_of (fn := Go.Proofs.Try.f9) [] (by kernel_rfl) trivial) (castK h (by kernel_rfl))
/-! ### 3 herdsman/herdsmanlaw6.TallyAdds -/
def herdsmanlaw6_TallyAdds.sh (a : Int) (b : Int) (w : World) (Q : Bool → World → Prop) : Prop :=
  tally_Add.call a b w fun r8 w0_1 =>
  cond (decide (a ≤ (inot .u64 b)))
  (herdsmanlaw6_told.call w0_1 fun r13 w0_2 =>
  cond r13
  (Q (r8 == (IntKind.wrap .u64 (a + b))) w0_2)
  (Q false w0_2))
  (herdsmanlaw6_told.call w0_1 fun r21 w0_3 =>
  cond r21
  (Q (r8 == 18446744073709551615) w0_3)
  (Q false w0_3))
noncomputable def herdsmanlaw6_TallyAdds.scr : Scrs := []
def herdsmanlaw6_TallyAdds.R (Q : Bool → World → Prop) (ρ : Env) (w : World) : Prop := evRes (cx 26) Go.Proofs.Try.f3.results.toList ρ w fun vs => herdsmanlaw6_TallyAdds.qv Q (resV vs) w
set_option maxRecDepth 100000 in
theorem herdsmanlaw6_TallyAdds.body (a : Int) (b : Int) (w : World) (Q : Bool → World → Prop) (h : herdsmanlaw6_TallyAdds.sh a b w Q) : herdsmanlaw6_TallyAdds.call a b w Q := by
  refine call_fn (ok 26) (fn := Go.Proofs.Try.f3) (args := [.int .u64 a, .int .u64 b]) (K := herdsmanlaw6_TallyAdds.qv Q) Go.Proofs.Try.func3 (by kernel_rfl) (by kernel_rfl) (by kernel_rfl) ?_
  refine evT_sound (ok 26) (drawD_sound (ok 26) herdsmanlaw6_TallyAdds.scr) 600 (L := []) (leaf_of (fn := Go.Proofs.Try.f3) [] (by kernel_rfl) trivial) (castK h (by kernel_rfl))
/-! ### 4 herdsman/herdsmanlaw6.TallyThree -/
def herdsmanlaw6_TallyThree.sh (a : Int) (b : Int) (c : Int) (w : World) (Q : Bool → World → Prop) : Prop :=
  tally_Add.call a b w fun r10 w0_1 =>
  tally_Add.call r10 c w0_1 fun r12 w0_2 =>
  herdsmanlaw6_told.call w0_2 fun r13 w0_3 =>
  cond r13
  (tally_Add.call b c w0_3 fun r19 w0_4 =>
  tally_Add.call a r19 w0_4 fun r20 w0_5 =>
  cond (r12 == r20)
  (tally_Add.call c a w0_5 fun r27 w0_6 =>
  tally_Add.call r27 b w0_6 fun r29 w0_7 =>
  cond (r12 == r29)
  (cond (decide (r12 ≥ a))
  (cond (decide (r12 ≥ b))
  (cond (decide (r12 ≥ c))
  (tally_Add.call a 0 w0_7 fun r49 w0_8 =>
  Q (r49 == a) w0_8)
  (Q false w0_7))
  (Q false w0_7))
  (Q false w0_7))
  (Q false w0_7))
  (Q false w0_5))
  (Q false w0_3)
noncomputable def herdsmanlaw6_TallyThree.scr : Scrs := []
def herdsmanlaw6_TallyThree.R (Q : Bool → World → Prop) (ρ : Env) (w : World) : Prop := evRes (cx 53) Go.Proofs.Try.f4.results.toList ρ w fun vs => herdsmanlaw6_TallyThree.qv Q (resV vs) w
set_option maxRecDepth 100000 in
theorem herdsmanlaw6_TallyThree.body (a : Int) (b : Int) (c : Int) (w : World) (Q : Bool → World → Prop) (h : herdsmanlaw6_TallyThree.sh a b c w Q) : herdsmanlaw6_TallyThree.call a b c w Q := by
  refine call_fn (ok 53) (fn := Go.Proofs.Try.f4) (args := [.int .u64 a, .int .u64 b, .int .u64 c]) (K := herdsmanlaw6_TallyThree.qv Q) Go.Proofs.Try.func4 (by kernel_rfl) (by kernel_rfl) (by kernel_rfl) ?_
  refine evT_sound (ok 53) (drawD_sound (ok 53) herdsmanlaw6_TallyThree.scr) 600 (L := []) (leaf_of (fn := Go.Proofs.Try.f4) [] (by kernel_rfl) trivial) (castK h (by kernel_rfl))
/-! ### 13 herdsman/tally.counts -/
def tally_counts.sh (s_Rebuilds : Int) (s_Searches : Int) (s_Builds : Int) (s_Hits : Int) (s_Stale : Int) (s_Evicts : Int) (w : World) (Q : Int → Int → Int → Int → Int → Int → World → Prop) : Prop :=
  Bx [.int .u64 s_Rebuilds, .int .u64 s_Searches, .int .u64 s_Builds, .int .u64 s_Hits, .int .u64 s_Stale, .int .u64 s_Evicts] 28 w fun s_b w0_1 =>
  Al T 33 w0_1 fun p2 w0_2 =>
  LdI .u64 s_b w0_2 fun x4 =>
  LdI .u64 (s_b.add 1) w0_2 fun x6 =>
  LdI .u64 (s_b.add 2) w0_2 fun x8 =>
  LdI .u64 (s_b.add 3) w0_2 fun x10 =>
  LdI .u64 (s_b.add 4) w0_2 fun x12 =>
  LdI .u64 (s_b.add 5) w0_2 fun x14 =>
  St (p2.add 0) (.int .u64 x4) w0_2 fun w0_3 =>
  St (p2.add 1) (.int .u64 x6) w0_3 fun w0_4 =>
  St (p2.add 2) (.int .u64 x8) w0_4 fun w0_5 =>
  St (p2.add 3) (.int .u64 x10) w0_5 fun w0_6 =>
  St (p2.add 4) (.int .u64 x12) w0_6 fun w0_7 =>
  St (p2.add 5) (.int .u64 x14) w0_7 fun w0_8 =>
  LdI .u64 (p2.add 0) w0_8 fun r2_0 =>
  LdI .u64 (p2.add 1) w0_8 fun r2_1 =>
  LdI .u64 (p2.add 2) w0_8 fun r2_2 =>
  LdI .u64 (p2.add 3) w0_8 fun r2_3 =>
  LdI .u64 (p2.add 4) w0_8 fun r2_4 =>
  LdI .u64 (p2.add 5) w0_8 fun r2_5 =>
  Q r2_0 r2_1 r2_2 r2_3 r2_4 r2_5 w0_8
noncomputable def tally_counts.scr : Scrs := []
def tally_counts.R (Q : Int → Int → Int → Int → Int → Int → World → Prop) (ρ : Env) (w : World) : Prop := evRes (cx 16) Go.Proofs.Try.f13.results.toList ρ w fun vs => tally_counts.qv Q (resV vs) w
set_option maxRecDepth 100000 in
theorem tally_counts.body (s_Rebuilds : Int) (s_Searches : Int) (s_Builds : Int) (s_Hits : Int) (s_Stale : Int) (s_Evicts : Int) (w : World) (Q : Int → Int → Int → Int → Int → Int → World → Prop) (h : tally_counts.sh s_Rebuilds s_Searches s_Builds s_Hits s_Stale s_Evicts w Q) : tally_counts.call s_Rebuilds s_Searches s_Builds s_Hits s_Stale s_Evicts w Q := by
  refine call_fn (ok 16) (fn := Go.Proofs.Try.f13) (args := [.agg #[.int .u64 s_Rebuilds, .int .u64 s_Searches, .int .u64 s_Builds, .int .u64 s_Hits, .int .u64 s_Stale, .int .u64 s_Evicts]]) (K := tally_counts.qv Q) Go.Proofs.Try.func13 (by kernel_rfl) (by kernel_rfl) (by kernel_rfl) ?_
  refine evT_sound (ok 16) (drawD_sound (ok 16) tally_counts.scr) 600 (L := []) (leaf_of (fn := Go.Proofs.Try.f13) [] (by kernel_rfl) trivial) (castK h (by kernel_rfl))
/-! ### 10 herdsman/tally.Below -/
def tally_Below.s3 (Q : Bool → World → Prop) (R3 : Addr → Addr → Int → World → Prop) (x : Addr) (y : Addr) (t12 : Int) (w : World) : Prop :=
  cond (decide (t12 < 6))
  (InB t12 6 <|
  LdI .u64 (x.add (t12.toNat * 1)) w.drew fun x17 =>
  InB t12 6 <|
  LdI .u64 (y.add (t12.toNat * 1)) w.drew fun x20 =>
  cond (decide (x17 > x20))
  (Q false w.drew)
  (R3 x y (IntKind.wrap .i64 (t12 + 1)) w.drew))
  (Q true w)
def tally_Below.b3 (Q : Bool → World → Prop) : Nat → Addr → Addr → Int → World → Prop
  | 0, _, _, _, _ => False
  | k + 1, x, y, t12, w => tally_Below.s3 Q (tally_Below.b3 Q k) x y t12 w
def tally_Below.b2 (Q : Bool → World → Prop) (x : Addr) (y : Addr) (w : World) : Prop :=
  ∃ k', tally_Below.b3 Q k' x y 0 w
def tally_Below.sh (a_Rebuilds : Int) (a_Searches : Int) (a_Builds : Int) (a_Hits : Int) (a_Stale : Int) (a_Evicts : Int) (b_Rebuilds : Int) (b_Searches : Int) (b_Builds : Int) (b_Hits : Int) (b_Stale : Int) (b_Evicts : Int) (w : World) (Q : Bool → World → Prop) : Prop :=
  Bx [.int .u64 a_Rebuilds, .int .u64 a_Searches, .int .u64 a_Builds, .int .u64 a_Hits, .int .u64 a_Stale, .int .u64 a_Evicts] 28 w fun a_b w0_1 =>
  Bx [.int .u64 b_Rebuilds, .int .u64 b_Searches, .int .u64 b_Builds, .int .u64 b_Hits, .int .u64 b_Stale, .int .u64 b_Evicts] 28 w0_1 fun b_b w0_2 =>
  LdI .u64 (a_b.add 0) w0_2.drew fun x8_Rebuilds =>
  LdI .u64 (a_b.add 1) w0_2.drew fun x8_Searches =>
  LdI .u64 (a_b.add 2) w0_2.drew fun x8_Builds =>
  LdI .u64 (a_b.add 3) w0_2.drew fun x8_Hits =>
  LdI .u64 (a_b.add 4) w0_2.drew fun x8_Stale =>
  LdI .u64 (a_b.add 5) w0_2.drew fun x8_Evicts =>
  LdI .u64 (b_b.add 0) w0_2.drew fun x10_Rebuilds =>
  LdI .u64 (b_b.add 1) w0_2.drew fun x10_Searches =>
  LdI .u64 (b_b.add 2) w0_2.drew fun x10_Builds =>
  LdI .u64 (b_b.add 3) w0_2.drew fun x10_Hits =>
  LdI .u64 (b_b.add 4) w0_2.drew fun x10_Stale =>
  LdI .u64 (b_b.add 5) w0_2.drew fun x10_Evicts =>
  (tally_counts.call x8_Rebuilds x8_Searches x8_Builds x8_Hits x8_Stale x8_Evicts w0_2.drew fun r9_0 r9_1 r9_2 r9_3 r9_4 r9_5 w0_3 =>
  w0_3.cell? (b_b.add 0) = some (.int .u64 x10_Rebuilds) ∧
  w0_3.cell? (b_b.add 1) = some (.int .u64 x10_Searches) ∧
  w0_3.cell? (b_b.add 2) = some (.int .u64 x10_Builds) ∧
  w0_3.cell? (b_b.add 3) = some (.int .u64 x10_Hits) ∧
  w0_3.cell? (b_b.add 4) = some (.int .u64 x10_Stale) ∧
  w0_3.cell? (b_b.add 5) = some (.int .u64 x10_Evicts) ∧
  (tally_counts.call x10_Rebuilds x10_Searches x10_Builds x10_Hits x10_Stale x10_Evicts w0_3 fun r11_0 r11_1 r11_2 r11_3 r11_4 r11_5 w0_4 =>
  (Al T 33 w0_4 fun x w0_5 =>
  w0_5.cell? (b_b.add 0) = some (.int .u64 x10_Rebuilds) ∧
  w0_5.cell? (b_b.add 1) = some (.int .u64 x10_Searches) ∧
  w0_5.cell? (b_b.add 2) = some (.int .u64 x10_Builds) ∧
  w0_5.cell? (b_b.add 3) = some (.int .u64 x10_Hits) ∧
  w0_5.cell? (b_b.add 4) = some (.int .u64 x10_Stale) ∧
  w0_5.cell? (b_b.add 5) = some (.int .u64 x10_Evicts) ∧
  w0_5.cell? (a_b.add 0) = some (.int .u64 x8_Rebuilds) ∧
  w0_5.cell? (a_b.add 1) = some (.int .u64 x8_Searches) ∧
  w0_5.cell? (a_b.add 2) = some (.int .u64 x8_Builds) ∧
  w0_5.cell? (a_b.add 3) = some (.int .u64 x8_Hits) ∧
  w0_5.cell? (a_b.add 4) = some (.int .u64 x8_Stale) ∧
  w0_5.cell? (a_b.add 5) = some (.int .u64 x8_Evicts) ∧
  Al T 33 w0_5 fun y w0_6 =>
  w0_6.cell? (b_b.add 0) = some (.int .u64 x10_Rebuilds) ∧
  w0_6.cell? (b_b.add 1) = some (.int .u64 x10_Searches) ∧
  w0_6.cell? (b_b.add 2) = some (.int .u64 x10_Builds) ∧
  w0_6.cell? (b_b.add 3) = some (.int .u64 x10_Hits) ∧
  w0_6.cell? (b_b.add 4) = some (.int .u64 x10_Stale) ∧
  w0_6.cell? (b_b.add 5) = some (.int .u64 x10_Evicts) ∧
  w0_6.cell? (a_b.add 0) = some (.int .u64 x8_Rebuilds) ∧
  w0_6.cell? (a_b.add 1) = some (.int .u64 x8_Searches) ∧
  w0_6.cell? (a_b.add 2) = some (.int .u64 x8_Builds) ∧
  w0_6.cell? (a_b.add 3) = some (.int .u64 x8_Hits) ∧
  w0_6.cell? (a_b.add 4) = some (.int .u64 x8_Stale) ∧
  w0_6.cell? (a_b.add 5) = some (.int .u64 x8_Evicts) ∧
  St (x.add 0) (.int .u64 r9_0) w0_6 fun w0_7 =>
  St (x.add 1) (.int .u64 r9_1) w0_7 fun w0_8 =>
  St (x.add 2) (.int .u64 r9_2) w0_8 fun w0_9 =>
  St (x.add 3) (.int .u64 r9_3) w0_9 fun w0_10 =>
  St (x.add 4) (.int .u64 r9_4) w0_10 fun w0_11 =>
  St (x.add 5) (.int .u64 r9_5) w0_11 fun w0_12 =>
  St (y.add 0) (.int .u64 r11_0) w0_12 fun w0_13 =>
  St (y.add 1) (.int .u64 r11_1) w0_13 fun w0_14 =>
  St (y.add 2) (.int .u64 r11_2) w0_14 fun w0_15 =>
  St (y.add 3) (.int .u64 r11_3) w0_15 fun w0_16 =>
  St (y.add 4) (.int .u64 r11_4) w0_16 fun w0_17 =>
  St (y.add 5) (.int .u64 r11_5) w0_17 fun w0_18 =>
  tally_Below.b2 Q x y w0_18) ∧
  (Al T 33 w0_4 fun y_1 w0_19 =>
  w0_19.cell? (b_b.add 0) = some (.int .u64 x10_Rebuilds) ∧
  w0_19.cell? (b_b.add 1) = some (.int .u64 x10_Searches) ∧
  w0_19.cell? (b_b.add 2) = some (.int .u64 x10_Builds) ∧
  w0_19.cell? (b_b.add 3) = some (.int .u64 x10_Hits) ∧
  w0_19.cell? (b_b.add 4) = some (.int .u64 x10_Stale) ∧
  w0_19.cell? (b_b.add 5) = some (.int .u64 x10_Evicts) ∧
  w0_19.cell? (a_b.add 0) = some (.int .u64 x8_Rebuilds) ∧
  w0_19.cell? (a_b.add 1) = some (.int .u64 x8_Searches) ∧
  w0_19.cell? (a_b.add 2) = some (.int .u64 x8_Builds) ∧
  w0_19.cell? (a_b.add 3) = some (.int .u64 x8_Hits) ∧
  w0_19.cell? (a_b.add 4) = some (.int .u64 x8_Stale) ∧
  w0_19.cell? (a_b.add 5) = some (.int .u64 x8_Evicts) ∧
  Al T 33 w0_19 fun x_1 w0_20 =>
  w0_20.cell? (b_b.add 0) = some (.int .u64 x10_Rebuilds) ∧
  w0_20.cell? (b_b.add 1) = some (.int .u64 x10_Searches) ∧
  w0_20.cell? (b_b.add 2) = some (.int .u64 x10_Builds) ∧
  w0_20.cell? (b_b.add 3) = some (.int .u64 x10_Hits) ∧
  w0_20.cell? (b_b.add 4) = some (.int .u64 x10_Stale) ∧
  w0_20.cell? (b_b.add 5) = some (.int .u64 x10_Evicts) ∧
  w0_20.cell? (a_b.add 0) = some (.int .u64 x8_Rebuilds) ∧
  w0_20.cell? (a_b.add 1) = some (.int .u64 x8_Searches) ∧
  w0_20.cell? (a_b.add 2) = some (.int .u64 x8_Builds) ∧
  w0_20.cell? (a_b.add 3) = some (.int .u64 x8_Hits) ∧
  w0_20.cell? (a_b.add 4) = some (.int .u64 x8_Stale) ∧
  w0_20.cell? (a_b.add 5) = some (.int .u64 x8_Evicts) ∧
  St (x_1.add 0) (.int .u64 r9_0) w0_20 fun w0_21 =>
  St (x_1.add 1) (.int .u64 r9_1) w0_21 fun w0_22 =>
  St (x_1.add 2) (.int .u64 r9_2) w0_22 fun w0_23 =>
  St (x_1.add 3) (.int .u64 r9_3) w0_23 fun w0_24 =>
  St (x_1.add 4) (.int .u64 r9_4) w0_24 fun w0_25 =>
  St (x_1.add 5) (.int .u64 r9_5) w0_25 fun w0_26 =>
  St (y_1.add 0) (.int .u64 r11_0) w0_26 fun w0_27 =>
  St (y_1.add 1) (.int .u64 r11_1) w0_27 fun w0_28 =>
  St (y_1.add 2) (.int .u64 r11_2) w0_28 fun w0_29 =>
  St (y_1.add 3) (.int .u64 r11_3) w0_29 fun w0_30 =>
  St (y_1.add 4) (.int .u64 r11_4) w0_30 fun w0_31 =>
  St (y_1.add 5) (.int .u64 r11_5) w0_31 fun w0_32 =>
  tally_Below.b2 Q x_1 y_1 w0_32)) ∧
  ((Al T 33 w0_3 fun x_2 w0_33 =>
  w0_33.cell? (b_b.add 0) = some (.int .u64 x10_Rebuilds) ∧
  w0_33.cell? (b_b.add 1) = some (.int .u64 x10_Searches) ∧
  w0_33.cell? (b_b.add 2) = some (.int .u64 x10_Builds) ∧
  w0_33.cell? (b_b.add 3) = some (.int .u64 x10_Hits) ∧
  w0_33.cell? (b_b.add 4) = some (.int .u64 x10_Stale) ∧
  w0_33.cell? (b_b.add 5) = some (.int .u64 x10_Evicts) ∧
  w0_33.cell? (a_b.add 0) = some (.int .u64 x8_Rebuilds) ∧
  w0_33.cell? (a_b.add 1) = some (.int .u64 x8_Searches) ∧
  w0_33.cell? (a_b.add 2) = some (.int .u64 x8_Builds) ∧
  w0_33.cell? (a_b.add 3) = some (.int .u64 x8_Hits) ∧
  w0_33.cell? (a_b.add 4) = some (.int .u64 x8_Stale) ∧
  w0_33.cell? (a_b.add 5) = some (.int .u64 x8_Evicts) ∧
  (tally_counts.call x10_Rebuilds x10_Searches x10_Builds x10_Hits x10_Stale x10_Evicts w0_33 fun r11_0_1 r11_1_1 r11_2_1 r11_3_1 r11_4_1 r11_5_1 w0_34 =>
  Al T 33 w0_34 fun y_2 w0_35 =>
  w0_35.cell? (b_b.add 0) = some (.int .u64 x10_Rebuilds) ∧
  w0_35.cell? (b_b.add 1) = some (.int .u64 x10_Searches) ∧
  w0_35.cell? (b_b.add 2) = some (.int .u64 x10_Builds) ∧
  w0_35.cell? (b_b.add 3) = some (.int .u64 x10_Hits) ∧
  w0_35.cell? (b_b.add 4) = some (.int .u64 x10_Stale) ∧
  w0_35.cell? (b_b.add 5) = some (.int .u64 x10_Evicts) ∧
  w0_35.cell? (a_b.add 0) = some (.int .u64 x8_Rebuilds) ∧
  w0_35.cell? (a_b.add 1) = some (.int .u64 x8_Searches) ∧
  w0_35.cell? (a_b.add 2) = some (.int .u64 x8_Builds) ∧
  w0_35.cell? (a_b.add 3) = some (.int .u64 x8_Hits) ∧
  w0_35.cell? (a_b.add 4) = some (.int .u64 x8_Stale) ∧
  w0_35.cell? (a_b.add 5) = some (.int .u64 x8_Evicts) ∧
  St (x_2.add 0) (.int .u64 r9_0) w0_35 fun w0_36 =>
  St (x_2.add 1) (.int .u64 r9_1) w0_36 fun w0_37 =>
  St (x_2.add 2) (.int .u64 r9_2) w0_37 fun w0_38 =>
  St (x_2.add 3) (.int .u64 r9_3) w0_38 fun w0_39 =>
  St (x_2.add 4) (.int .u64 r9_4) w0_39 fun w0_40 =>
  St (x_2.add 5) (.int .u64 r9_5) w0_40 fun w0_41 =>
  St (y_2.add 0) (.int .u64 r11_0_1) w0_41 fun w0_42 =>
  St (y_2.add 1) (.int .u64 r11_1_1) w0_42 fun w0_43 =>
  St (y_2.add 2) (.int .u64 r11_2_1) w0_43 fun w0_44 =>
  St (y_2.add 3) (.int .u64 r11_3_1) w0_44 fun w0_45 =>
  St (y_2.add 4) (.int .u64 r11_4_1) w0_45 fun w0_46 =>
  St (y_2.add 5) (.int .u64 r11_5_1) w0_46 fun w0_47 =>
  tally_Below.b2 Q x_2 y_2 w0_47) ∧
  (Al T 33 w0_33 fun y_3 w0_48 =>
  w0_48.cell? (b_b.add 0) = some (.int .u64 x10_Rebuilds) ∧
  w0_48.cell? (b_b.add 1) = some (.int .u64 x10_Searches) ∧
  w0_48.cell? (b_b.add 2) = some (.int .u64 x10_Builds) ∧
  w0_48.cell? (b_b.add 3) = some (.int .u64 x10_Hits) ∧
  w0_48.cell? (b_b.add 4) = some (.int .u64 x10_Stale) ∧
  w0_48.cell? (b_b.add 5) = some (.int .u64 x10_Evicts) ∧
  w0_48.cell? (a_b.add 0) = some (.int .u64 x8_Rebuilds) ∧
  w0_48.cell? (a_b.add 1) = some (.int .u64 x8_Searches) ∧
  w0_48.cell? (a_b.add 2) = some (.int .u64 x8_Builds) ∧
  w0_48.cell? (a_b.add 3) = some (.int .u64 x8_Hits) ∧
  w0_48.cell? (a_b.add 4) = some (.int .u64 x8_Stale) ∧
  w0_48.cell? (a_b.add 5) = some (.int .u64 x8_Evicts) ∧
  tally_counts.call x10_Rebuilds x10_Searches x10_Builds x10_Hits x10_Stale x10_Evicts w0_48 fun r11_0_2 r11_1_2 r11_2_2 r11_3_2 r11_4_2 r11_5_2 w0_49 =>
  St (x_2.add 0) (.int .u64 r9_0) w0_49 fun w0_50 =>
  St (x_2.add 1) (.int .u64 r9_1) w0_50 fun w0_51 =>
  St (x_2.add 2) (.int .u64 r9_2) w0_51 fun w0_52 =>
  St (x_2.add 3) (.int .u64 r9_3) w0_52 fun w0_53 =>
  St (x_2.add 4) (.int .u64 r9_4) w0_53 fun w0_54 =>
  St (x_2.add 5) (.int .u64 r9_5) w0_54 fun w0_55 =>
  St (y_3.add 0) (.int .u64 r11_0_2) w0_55 fun w0_56 =>
  St (y_3.add 1) (.int .u64 r11_1_2) w0_56 fun w0_57 =>
  St (y_3.add 2) (.int .u64 r11_2_2) w0_57 fun w0_58 =>
  St (y_3.add 3) (.int .u64 r11_3_2) w0_58 fun w0_59 =>
  St (y_3.add 4) (.int .u64 r11_4_2) w0_59 fun w0_60 =>
  St (y_3.add 5) (.int .u64 r11_5_2) w0_60 fun w0_61 =>
  tally_Below.b2 Q x_2 y_3 w0_61)) ∧
  (Al T 33 w0_3 fun y_4 w0_62 =>
  w0_62.cell? (b_b.add 0) = some (.int .u64 x10_Rebuilds) ∧
  w0_62.cell? (b_b.add 1) = some (.int .u64 x10_Searches) ∧
  w0_62.cell? (b_b.add 2) = some (.int .u64 x10_Builds) ∧
  w0_62.cell? (b_b.add 3) = some (.int .u64 x10_Hits) ∧
  w0_62.cell? (b_b.add 4) = some (.int .u64 x10_Stale) ∧
  w0_62.cell? (b_b.add 5) = some (.int .u64 x10_Evicts) ∧
  w0_62.cell? (a_b.add 0) = some (.int .u64 x8_Rebuilds) ∧
  w0_62.cell? (a_b.add 1) = some (.int .u64 x8_Searches) ∧
  w0_62.cell? (a_b.add 2) = some (.int .u64 x8_Builds) ∧
  w0_62.cell? (a_b.add 3) = some (.int .u64 x8_Hits) ∧
  w0_62.cell? (a_b.add 4) = some (.int .u64 x8_Stale) ∧
  w0_62.cell? (a_b.add 5) = some (.int .u64 x8_Evicts) ∧
  (tally_counts.call x10_Rebuilds x10_Searches x10_Builds x10_Hits x10_Stale x10_Evicts w0_62 fun r11_0_3 r11_1_3 r11_2_3 r11_3_3 r11_4_3 r11_5_3 w0_63 =>
  Al T 33 w0_63 fun x_3 w0_64 =>
  w0_64.cell? (b_b.add 0) = some (.int .u64 x10_Rebuilds) ∧
  w0_64.cell? (b_b.add 1) = some (.int .u64 x10_Searches) ∧
  w0_64.cell? (b_b.add 2) = some (.int .u64 x10_Builds) ∧
  w0_64.cell? (b_b.add 3) = some (.int .u64 x10_Hits) ∧
  w0_64.cell? (b_b.add 4) = some (.int .u64 x10_Stale) ∧
  w0_64.cell? (b_b.add 5) = some (.int .u64 x10_Evicts) ∧
  w0_64.cell? (a_b.add 0) = some (.int .u64 x8_Rebuilds) ∧
  w0_64.cell? (a_b.add 1) = some (.int .u64 x8_Searches) ∧
  w0_64.cell? (a_b.add 2) = some (.int .u64 x8_Builds) ∧
  w0_64.cell? (a_b.add 3) = some (.int .u64 x8_Hits) ∧
  w0_64.cell? (a_b.add 4) = some (.int .u64 x8_Stale) ∧
  w0_64.cell? (a_b.add 5) = some (.int .u64 x8_Evicts) ∧
  St (x_3.add 0) (.int .u64 r9_0) w0_64 fun w0_65 =>
  St (x_3.add 1) (.int .u64 r9_1) w0_65 fun w0_66 =>
  St (x_3.add 2) (.int .u64 r9_2) w0_66 fun w0_67 =>
  St (x_3.add 3) (.int .u64 r9_3) w0_67 fun w0_68 =>
  St (x_3.add 4) (.int .u64 r9_4) w0_68 fun w0_69 =>
  St (x_3.add 5) (.int .u64 r9_5) w0_69 fun w0_70 =>
  St (y_4.add 0) (.int .u64 r11_0_3) w0_70 fun w0_71 =>
  St (y_4.add 1) (.int .u64 r11_1_3) w0_71 fun w0_72 =>
  St (y_4.add 2) (.int .u64 r11_2_3) w0_72 fun w0_73 =>
  St (y_4.add 3) (.int .u64 r11_3_3) w0_73 fun w0_74 =>
  St (y_4.add 4) (.int .u64 r11_4_3) w0_74 fun w0_75 =>
  St (y_4.add 5) (.int .u64 r11_5_3) w0_75 fun w0_76 =>
  tally_Below.b2 Q x_3 y_4 w0_76) ∧
  (Al T 33 w0_62 fun x_4 w0_77 =>
  w0_77.cell? (b_b.add 0) = some (.int .u64 x10_Rebuilds) ∧
  w0_77.cell? (b_b.add 1) = some (.int .u64 x10_Searches) ∧
  w0_77.cell? (b_b.add 2) = some (.int .u64 x10_Builds) ∧
  w0_77.cell? (b_b.add 3) = some (.int .u64 x10_Hits) ∧
  w0_77.cell? (b_b.add 4) = some (.int .u64 x10_Stale) ∧
  w0_77.cell? (b_b.add 5) = some (.int .u64 x10_Evicts) ∧
  w0_77.cell? (a_b.add 0) = some (.int .u64 x8_Rebuilds) ∧
  w0_77.cell? (a_b.add 1) = some (.int .u64 x8_Searches) ∧
  w0_77.cell? (a_b.add 2) = some (.int .u64 x8_Builds) ∧
  w0_77.cell? (a_b.add 3) = some (.int .u64 x8_Hits) ∧
  w0_77.cell? (a_b.add 4) = some (.int .u64 x8_Stale) ∧
  w0_77.cell? (a_b.add 5) = some (.int .u64 x8_Evicts) ∧
  tally_counts.call x10_Rebuilds x10_Searches x10_Builds x10_Hits x10_Stale x10_Evicts w0_77 fun r11_0_4 r11_1_4 r11_2_4 r11_3_4 r11_4_4 r11_5_4 w0_78 =>
  St (x_4.add 0) (.int .u64 r9_0) w0_78 fun w0_79 =>
  St (x_4.add 1) (.int .u64 r9_1) w0_79 fun w0_80 =>
  St (x_4.add 2) (.int .u64 r9_2) w0_80 fun w0_81 =>
  St (x_4.add 3) (.int .u64 r9_3) w0_81 fun w0_82 =>
  St (x_4.add 4) (.int .u64 r9_4) w0_82 fun w0_83 =>
  St (x_4.add 5) (.int .u64 r9_5) w0_83 fun w0_84 =>
  St (y_4.add 0) (.int .u64 r11_0_4) w0_84 fun w0_85 =>
  St (y_4.add 1) (.int .u64 r11_1_4) w0_85 fun w0_86 =>
  St (y_4.add 2) (.int .u64 r11_2_4) w0_86 fun w0_87 =>
  St (y_4.add 3) (.int .u64 r11_3_4) w0_87 fun w0_88 =>
  St (y_4.add 4) (.int .u64 r11_4_4) w0_88 fun w0_89 =>
  St (y_4.add 5) (.int .u64 r11_5_4) w0_89 fun w0_90 =>
  tally_Below.b2 Q x_4 y_4 w0_90)))) ∧
  ((Al T 33 w0_2.drew fun x_5 w0_91 =>
  w0_91.cell? (b_b.add 0) = some (.int .u64 x10_Rebuilds) ∧
  w0_91.cell? (b_b.add 1) = some (.int .u64 x10_Searches) ∧
  w0_91.cell? (b_b.add 2) = some (.int .u64 x10_Builds) ∧
  w0_91.cell? (b_b.add 3) = some (.int .u64 x10_Hits) ∧
  w0_91.cell? (b_b.add 4) = some (.int .u64 x10_Stale) ∧
  w0_91.cell? (b_b.add 5) = some (.int .u64 x10_Evicts) ∧
  w0_91.cell? (a_b.add 0) = some (.int .u64 x8_Rebuilds) ∧
  w0_91.cell? (a_b.add 1) = some (.int .u64 x8_Searches) ∧
  w0_91.cell? (a_b.add 2) = some (.int .u64 x8_Builds) ∧
  w0_91.cell? (a_b.add 3) = some (.int .u64 x8_Hits) ∧
  w0_91.cell? (a_b.add 4) = some (.int .u64 x8_Stale) ∧
  w0_91.cell? (a_b.add 5) = some (.int .u64 x8_Evicts) ∧
  (tally_counts.call x8_Rebuilds x8_Searches x8_Builds x8_Hits x8_Stale x8_Evicts w0_91 fun r9_0_1 r9_1_1 r9_2_1 r9_3_1 r9_4_1 r9_5_1 w0_92 =>
  w0_92.cell? (b_b.add 0) = some (.int .u64 x10_Rebuilds) ∧
  w0_92.cell? (b_b.add 1) = some (.int .u64 x10_Searches) ∧
  w0_92.cell? (b_b.add 2) = some (.int .u64 x10_Builds) ∧
  w0_92.cell? (b_b.add 3) = some (.int .u64 x10_Hits) ∧
  w0_92.cell? (b_b.add 4) = some (.int .u64 x10_Stale) ∧
  w0_92.cell? (b_b.add 5) = some (.int .u64 x10_Evicts) ∧
  (tally_counts.call x10_Rebuilds x10_Searches x10_Builds x10_Hits x10_Stale x10_Evicts w0_92 fun r11_0_5 r11_1_5 r11_2_5 r11_3_5 r11_4_5 r11_5_5 w0_93 =>
  Al T 33 w0_93 fun y_5 w0_94 =>
  w0_94.cell? (b_b.add 0) = some (.int .u64 x10_Rebuilds) ∧
  w0_94.cell? (b_b.add 1) = some (.int .u64 x10_Searches) ∧
  w0_94.cell? (b_b.add 2) = some (.int .u64 x10_Builds) ∧
  w0_94.cell? (b_b.add 3) = some (.int .u64 x10_Hits) ∧
  w0_94.cell? (b_b.add 4) = some (.int .u64 x10_Stale) ∧
  w0_94.cell? (b_b.add 5) = some (.int .u64 x10_Evicts) ∧
  w0_94.cell? (a_b.add 0) = some (.int .u64 x8_Rebuilds) ∧
  w0_94.cell? (a_b.add 1) = some (.int .u64 x8_Searches) ∧
  w0_94.cell? (a_b.add 2) = some (.int .u64 x8_Builds) ∧
  w0_94.cell? (a_b.add 3) = some (.int .u64 x8_Hits) ∧
  w0_94.cell? (a_b.add 4) = some (.int .u64 x8_Stale) ∧
  w0_94.cell? (a_b.add 5) = some (.int .u64 x8_Evicts) ∧
  St (x_5.add 0) (.int .u64 r9_0_1) w0_94 fun w0_95 =>
  St (x_5.add 1) (.int .u64 r9_1_1) w0_95 fun w0_96 =>
  St (x_5.add 2) (.int .u64 r9_2_1) w0_96 fun w0_97 =>
  St (x_5.add 3) (.int .u64 r9_3_1) w0_97 fun w0_98 =>
  St (x_5.add 4) (.int .u64 r9_4_1) w0_98 fun w0_99 =>
  St (x_5.add 5) (.int .u64 r9_5_1) w0_99 fun w0_100 =>
  St (y_5.add 0) (.int .u64 r11_0_5) w0_100 fun w0_101 =>
  St (y_5.add 1) (.int .u64 r11_1_5) w0_101 fun w0_102 =>
  St (y_5.add 2) (.int .u64 r11_2_5) w0_102 fun w0_103 =>
  St (y_5.add 3) (.int .u64 r11_3_5) w0_103 fun w0_104 =>
  St (y_5.add 4) (.int .u64 r11_4_5) w0_104 fun w0_105 =>
  St (y_5.add 5) (.int .u64 r11_5_5) w0_105 fun w0_106 =>
  tally_Below.b2 Q x_5 y_5 w0_106) ∧
  (Al T 33 w0_92 fun y_6 w0_107 =>
  w0_107.cell? (b_b.add 0) = some (.int .u64 x10_Rebuilds) ∧
  w0_107.cell? (b_b.add 1) = some (.int .u64 x10_Searches) ∧
  w0_107.cell? (b_b.add 2) = some (.int .u64 x10_Builds) ∧
  w0_107.cell? (b_b.add 3) = some (.int .u64 x10_Hits) ∧
  w0_107.cell? (b_b.add 4) = some (.int .u64 x10_Stale) ∧
  w0_107.cell? (b_b.add 5) = some (.int .u64 x10_Evicts) ∧
  w0_107.cell? (a_b.add 0) = some (.int .u64 x8_Rebuilds) ∧
  w0_107.cell? (a_b.add 1) = some (.int .u64 x8_Searches) ∧
  w0_107.cell? (a_b.add 2) = some (.int .u64 x8_Builds) ∧
  w0_107.cell? (a_b.add 3) = some (.int .u64 x8_Hits) ∧
  w0_107.cell? (a_b.add 4) = some (.int .u64 x8_Stale) ∧
  w0_107.cell? (a_b.add 5) = some (.int .u64 x8_Evicts) ∧
  tally_counts.call x10_Rebuilds x10_Searches x10_Builds x10_Hits x10_Stale x10_Evicts w0_107 fun r11_0_6 r11_1_6 r11_2_6 r11_3_6 r11_4_6 r11_5_6 w0_108 =>
  St (x_5.add 0) (.int .u64 r9_0_1) w0_108 fun w0_109 =>
  St (x_5.add 1) (.int .u64 r9_1_1) w0_109 fun w0_110 =>
  St (x_5.add 2) (.int .u64 r9_2_1) w0_110 fun w0_111 =>
  St (x_5.add 3) (.int .u64 r9_3_1) w0_111 fun w0_112 =>
  St (x_5.add 4) (.int .u64 r9_4_1) w0_112 fun w0_113 =>
  St (x_5.add 5) (.int .u64 r9_5_1) w0_113 fun w0_114 =>
  St (y_6.add 0) (.int .u64 r11_0_6) w0_114 fun w0_115 =>
  St (y_6.add 1) (.int .u64 r11_1_6) w0_115 fun w0_116 =>
  St (y_6.add 2) (.int .u64 r11_2_6) w0_116 fun w0_117 =>
  St (y_6.add 3) (.int .u64 r11_3_6) w0_117 fun w0_118 =>
  St (y_6.add 4) (.int .u64 r11_4_6) w0_118 fun w0_119 =>
  St (y_6.add 5) (.int .u64 r11_5_6) w0_119 fun w0_120 =>
  tally_Below.b2 Q x_5 y_6 w0_120)) ∧
  (Al T 33 w0_91 fun y_7 w0_121 =>
  w0_121.cell? (b_b.add 0) = some (.int .u64 x10_Rebuilds) ∧
  w0_121.cell? (b_b.add 1) = some (.int .u64 x10_Searches) ∧
  w0_121.cell? (b_b.add 2) = some (.int .u64 x10_Builds) ∧
  w0_121.cell? (b_b.add 3) = some (.int .u64 x10_Hits) ∧
  w0_121.cell? (b_b.add 4) = some (.int .u64 x10_Stale) ∧
  w0_121.cell? (b_b.add 5) = some (.int .u64 x10_Evicts) ∧
  w0_121.cell? (a_b.add 0) = some (.int .u64 x8_Rebuilds) ∧
  w0_121.cell? (a_b.add 1) = some (.int .u64 x8_Searches) ∧
  w0_121.cell? (a_b.add 2) = some (.int .u64 x8_Builds) ∧
  w0_121.cell? (a_b.add 3) = some (.int .u64 x8_Hits) ∧
  w0_121.cell? (a_b.add 4) = some (.int .u64 x8_Stale) ∧
  w0_121.cell? (a_b.add 5) = some (.int .u64 x8_Evicts) ∧
  tally_counts.call x8_Rebuilds x8_Searches x8_Builds x8_Hits x8_Stale x8_Evicts w0_121 fun r9_0_2 r9_1_2 r9_2_2 r9_3_2 r9_4_2 r9_5_2 w0_122 =>
  w0_122.cell? (b_b.add 0) = some (.int .u64 x10_Rebuilds) ∧
  w0_122.cell? (b_b.add 1) = some (.int .u64 x10_Searches) ∧
  w0_122.cell? (b_b.add 2) = some (.int .u64 x10_Builds) ∧
  w0_122.cell? (b_b.add 3) = some (.int .u64 x10_Hits) ∧
  w0_122.cell? (b_b.add 4) = some (.int .u64 x10_Stale) ∧
  w0_122.cell? (b_b.add 5) = some (.int .u64 x10_Evicts) ∧
  tally_counts.call x10_Rebuilds x10_Searches x10_Builds x10_Hits x10_Stale x10_Evicts w0_122 fun r11_0_7 r11_1_7 r11_2_7 r11_3_7 r11_4_7 r11_5_7 w0_123 =>
  St (x_5.add 0) (.int .u64 r9_0_2) w0_123 fun w0_124 =>
  St (x_5.add 1) (.int .u64 r9_1_2) w0_124 fun w0_125 =>
  St (x_5.add 2) (.int .u64 r9_2_2) w0_125 fun w0_126 =>
  St (x_5.add 3) (.int .u64 r9_3_2) w0_126 fun w0_127 =>
  St (x_5.add 4) (.int .u64 r9_4_2) w0_127 fun w0_128 =>
  St (x_5.add 5) (.int .u64 r9_5_2) w0_128 fun w0_129 =>
  St (y_7.add 0) (.int .u64 r11_0_7) w0_129 fun w0_130 =>
  St (y_7.add 1) (.int .u64 r11_1_7) w0_130 fun w0_131 =>
  St (y_7.add 2) (.int .u64 r11_2_7) w0_131 fun w0_132 =>
  St (y_7.add 3) (.int .u64 r11_3_7) w0_132 fun w0_133 =>
  St (y_7.add 4) (.int .u64 r11_4_7) w0_133 fun w0_134 =>
  St (y_7.add 5) (.int .u64 r11_5_7) w0_134 fun w0_135 =>
  tally_Below.b2 Q x_5 y_7 w0_135)) ∧
  (Al T 33 w0_2.drew fun y_8 w0_136 =>
  w0_136.cell? (b_b.add 0) = some (.int .u64 x10_Rebuilds) ∧
  w0_136.cell? (b_b.add 1) = some (.int .u64 x10_Searches) ∧
  w0_136.cell? (b_b.add 2) = some (.int .u64 x10_Builds) ∧
  w0_136.cell? (b_b.add 3) = some (.int .u64 x10_Hits) ∧
  w0_136.cell? (b_b.add 4) = some (.int .u64 x10_Stale) ∧
  w0_136.cell? (b_b.add 5) = some (.int .u64 x10_Evicts) ∧
  w0_136.cell? (a_b.add 0) = some (.int .u64 x8_Rebuilds) ∧
  w0_136.cell? (a_b.add 1) = some (.int .u64 x8_Searches) ∧
  w0_136.cell? (a_b.add 2) = some (.int .u64 x8_Builds) ∧
  w0_136.cell? (a_b.add 3) = some (.int .u64 x8_Hits) ∧
  w0_136.cell? (a_b.add 4) = some (.int .u64 x8_Stale) ∧
  w0_136.cell? (a_b.add 5) = some (.int .u64 x8_Evicts) ∧
  (tally_counts.call x8_Rebuilds x8_Searches x8_Builds x8_Hits x8_Stale x8_Evicts w0_136 fun r9_0_3 r9_1_3 r9_2_3 r9_3_3 r9_4_3 r9_5_3 w0_137 =>
  w0_137.cell? (b_b.add 0) = some (.int .u64 x10_Rebuilds) ∧
  w0_137.cell? (b_b.add 1) = some (.int .u64 x10_Searches) ∧
  w0_137.cell? (b_b.add 2) = some (.int .u64 x10_Builds) ∧
  w0_137.cell? (b_b.add 3) = some (.int .u64 x10_Hits) ∧
  w0_137.cell? (b_b.add 4) = some (.int .u64 x10_Stale) ∧
  w0_137.cell? (b_b.add 5) = some (.int .u64 x10_Evicts) ∧
  (tally_counts.call x10_Rebuilds x10_Searches x10_Builds x10_Hits x10_Stale x10_Evicts w0_137 fun r11_0_8 r11_1_8 r11_2_8 r11_3_8 r11_4_8 r11_5_8 w0_138 =>
  Al T 33 w0_138 fun x_6 w0_139 =>
  w0_139.cell? (b_b.add 0) = some (.int .u64 x10_Rebuilds) ∧
  w0_139.cell? (b_b.add 1) = some (.int .u64 x10_Searches) ∧
  w0_139.cell? (b_b.add 2) = some (.int .u64 x10_Builds) ∧
  w0_139.cell? (b_b.add 3) = some (.int .u64 x10_Hits) ∧
  w0_139.cell? (b_b.add 4) = some (.int .u64 x10_Stale) ∧
  w0_139.cell? (b_b.add 5) = some (.int .u64 x10_Evicts) ∧
  w0_139.cell? (a_b.add 0) = some (.int .u64 x8_Rebuilds) ∧
  w0_139.cell? (a_b.add 1) = some (.int .u64 x8_Searches) ∧
  w0_139.cell? (a_b.add 2) = some (.int .u64 x8_Builds) ∧
  w0_139.cell? (a_b.add 3) = some (.int .u64 x8_Hits) ∧
  w0_139.cell? (a_b.add 4) = some (.int .u64 x8_Stale) ∧
  w0_139.cell? (a_b.add 5) = some (.int .u64 x8_Evicts) ∧
  St (x_6.add 0) (.int .u64 r9_0_3) w0_139 fun w0_140 =>
  St (x_6.add 1) (.int .u64 r9_1_3) w0_140 fun w0_141 =>
  St (x_6.add 2) (.int .u64 r9_2_3) w0_141 fun w0_142 =>
  St (x_6.add 3) (.int .u64 r9_3_3) w0_142 fun w0_143 =>
  St (x_6.add 4) (.int .u64 r9_4_3) w0_143 fun w0_144 =>
  St (x_6.add 5) (.int .u64 r9_5_3) w0_144 fun w0_145 =>
  St (y_8.add 0) (.int .u64 r11_0_8) w0_145 fun w0_146 =>
  St (y_8.add 1) (.int .u64 r11_1_8) w0_146 fun w0_147 =>
  St (y_8.add 2) (.int .u64 r11_2_8) w0_147 fun w0_148 =>
  St (y_8.add 3) (.int .u64 r11_3_8) w0_148 fun w0_149 =>
  St (y_8.add 4) (.int .u64 r11_4_8) w0_149 fun w0_150 =>
  St (y_8.add 5) (.int .u64 r11_5_8) w0_150 fun w0_151 =>
  tally_Below.b2 Q x_6 y_8 w0_151) ∧
  (Al T 33 w0_137 fun x_7 w0_152 =>
  w0_152.cell? (b_b.add 0) = some (.int .u64 x10_Rebuilds) ∧
  w0_152.cell? (b_b.add 1) = some (.int .u64 x10_Searches) ∧
  w0_152.cell? (b_b.add 2) = some (.int .u64 x10_Builds) ∧
  w0_152.cell? (b_b.add 3) = some (.int .u64 x10_Hits) ∧
  w0_152.cell? (b_b.add 4) = some (.int .u64 x10_Stale) ∧
  w0_152.cell? (b_b.add 5) = some (.int .u64 x10_Evicts) ∧
  w0_152.cell? (a_b.add 0) = some (.int .u64 x8_Rebuilds) ∧
  w0_152.cell? (a_b.add 1) = some (.int .u64 x8_Searches) ∧
  w0_152.cell? (a_b.add 2) = some (.int .u64 x8_Builds) ∧
  w0_152.cell? (a_b.add 3) = some (.int .u64 x8_Hits) ∧
  w0_152.cell? (a_b.add 4) = some (.int .u64 x8_Stale) ∧
  w0_152.cell? (a_b.add 5) = some (.int .u64 x8_Evicts) ∧
  tally_counts.call x10_Rebuilds x10_Searches x10_Builds x10_Hits x10_Stale x10_Evicts w0_152 fun r11_0_9 r11_1_9 r11_2_9 r11_3_9 r11_4_9 r11_5_9 w0_153 =>
  St (x_7.add 0) (.int .u64 r9_0_3) w0_153 fun w0_154 =>
  St (x_7.add 1) (.int .u64 r9_1_3) w0_154 fun w0_155 =>
  St (x_7.add 2) (.int .u64 r9_2_3) w0_155 fun w0_156 =>
  St (x_7.add 3) (.int .u64 r9_3_3) w0_156 fun w0_157 =>
  St (x_7.add 4) (.int .u64 r9_4_3) w0_157 fun w0_158 =>
  St (x_7.add 5) (.int .u64 r9_5_3) w0_158 fun w0_159 =>
  St (y_8.add 0) (.int .u64 r11_0_9) w0_159 fun w0_160 =>
  St (y_8.add 1) (.int .u64 r11_1_9) w0_160 fun w0_161 =>
  St (y_8.add 2) (.int .u64 r11_2_9) w0_161 fun w0_162 =>
  St (y_8.add 3) (.int .u64 r11_3_9) w0_162 fun w0_163 =>
  St (y_8.add 4) (.int .u64 r11_4_9) w0_163 fun w0_164 =>
  St (y_8.add 5) (.int .u64 r11_5_9) w0_164 fun w0_165 =>
  tally_Below.b2 Q x_7 y_8 w0_165)) ∧
  (Al T 33 w0_136 fun x_8 w0_166 =>
  w0_166.cell? (b_b.add 0) = some (.int .u64 x10_Rebuilds) ∧
  w0_166.cell? (b_b.add 1) = some (.int .u64 x10_Searches) ∧
  w0_166.cell? (b_b.add 2) = some (.int .u64 x10_Builds) ∧
  w0_166.cell? (b_b.add 3) = some (.int .u64 x10_Hits) ∧
  w0_166.cell? (b_b.add 4) = some (.int .u64 x10_Stale) ∧
  w0_166.cell? (b_b.add 5) = some (.int .u64 x10_Evicts) ∧
  w0_166.cell? (a_b.add 0) = some (.int .u64 x8_Rebuilds) ∧
  w0_166.cell? (a_b.add 1) = some (.int .u64 x8_Searches) ∧
  w0_166.cell? (a_b.add 2) = some (.int .u64 x8_Builds) ∧
  w0_166.cell? (a_b.add 3) = some (.int .u64 x8_Hits) ∧
  w0_166.cell? (a_b.add 4) = some (.int .u64 x8_Stale) ∧
  w0_166.cell? (a_b.add 5) = some (.int .u64 x8_Evicts) ∧
  tally_counts.call x8_Rebuilds x8_Searches x8_Builds x8_Hits x8_Stale x8_Evicts w0_166 fun r9_0_4 r9_1_4 r9_2_4 r9_3_4 r9_4_4 r9_5_4 w0_167 =>
  w0_167.cell? (b_b.add 0) = some (.int .u64 x10_Rebuilds) ∧
  w0_167.cell? (b_b.add 1) = some (.int .u64 x10_Searches) ∧
  w0_167.cell? (b_b.add 2) = some (.int .u64 x10_Builds) ∧
  w0_167.cell? (b_b.add 3) = some (.int .u64 x10_Hits) ∧
  w0_167.cell? (b_b.add 4) = some (.int .u64 x10_Stale) ∧
  w0_167.cell? (b_b.add 5) = some (.int .u64 x10_Evicts) ∧
  tally_counts.call x10_Rebuilds x10_Searches x10_Builds x10_Hits x10_Stale x10_Evicts w0_167 fun r11_0_10 r11_1_10 r11_2_10 r11_3_10 r11_4_10 r11_5_10 w0_168 =>
  St (x_8.add 0) (.int .u64 r9_0_4) w0_168 fun w0_169 =>
  St (x_8.add 1) (.int .u64 r9_1_4) w0_169 fun w0_170 =>
  St (x_8.add 2) (.int .u64 r9_2_4) w0_170 fun w0_171 =>
  St (x_8.add 3) (.int .u64 r9_3_4) w0_171 fun w0_172 =>
  St (x_8.add 4) (.int .u64 r9_4_4) w0_172 fun w0_173 =>
  St (x_8.add 5) (.int .u64 r9_5_4) w0_173 fun w0_174 =>
  St (y_8.add 0) (.int .u64 r11_0_10) w0_174 fun w0_175 =>
  St (y_8.add 1) (.int .u64 r11_1_10) w0_175 fun w0_176 =>
  St (y_8.add 2) (.int .u64 r11_2_10) w0_176 fun w0_177 =>
  St (y_8.add 3) (.int .u64 r11_3_10) w0_177 fun w0_178 =>
  St (y_8.add 4) (.int .u64 r11_4_10) w0_178 fun w0_179 =>
  St (y_8.add 5) (.int .u64 r11_5_10) w0_179 fun w0_180 =>
  tally_Below.b2 Q x_8 y_8 w0_180)))
noncomputable def tally_Below.scr : Scrs := [(1, .op 0 (.op 2 (.br (.op 1 (.br (.op 3 (.br (.op 4 (.op 5 (.op 6 (.op 7 .done)))) (.op 5 (.op 4 (.op 6 (.op 7 .done)))))) (.br (.op 4 (.br (.op 3 (.op 5 (.op 6 (.op 7 .done)))) (.op 5 (.op 3 (.op 6 (.op 7 .done)))))) (.op 5 (.br (.op 3 (.op 4 (.op 6 (.op 7 .done)))) (.op 4 (.op 3 (.op 6 (.op 7 .done))))))))) (.br (.op 4 (.br (.op 1 (.br (.op 3 (.op 5 (.op 6 (.op 7 .done)))) (.op 5 (.op 3 (.op 6 (.op 7 .done)))))) (.op 5 (.op 1 (.op 3 (.op 6 (.op 7 .done))))))) (.op 5 (.br (.op 1 (.br (.op 3 (.op 4 (.op 6 (.op 7 .done)))) (.op 4 (.op 3 (.op 6 (.op 7 .done)))))) (.op 4 (.op 1 (.op 3 (.op 6 (.op 7 .done))))))))))), (5, .op 0 (.op 1 (.op 2 (.op 3 (.op 4 (.op 5 (.op 6 .done)))))))]
def tally_Below.R (Q : Bool → World → Prop) (ρ : Env) (w : World) : Prop := evRes (cx 23) Go.Proofs.Try.f10.results.toList ρ w fun vs => tally_Below.qv Q (resV vs) w
def tally_Below.d2 (K : Addr → Addr → Prop) (ρ : Env) : Prop :=
  dP (ρ 5) fun x_p => wA x_p fun x => dP (ρ 6) fun y_p => wA y_p fun y => K x y
theorem tally_Below.d2_elim {K : Addr → Addr → Prop} {ρ : Env} (h0 : tally_Below.d2 K ρ) : ∃ (x : Addr) (y : Addr), ρ 5 = .pointer (some x) ∧ ρ 6 = .pointer (some y) ∧ K x y := by
  obtain ⟨x_p, e5, h1⟩ := dP_elim h0
  obtain ⟨x, rfl, h2⟩ := wA_elim h1
  obtain ⟨y_p, e6, h3⟩ := dP_elim h2
  obtain ⟨y, rfl, h4⟩ := wA_elim h3
  exact ⟨x, y, e5, e6, h4⟩
def tally_Below.d3 (K : Addr → Addr → Int → Prop) (ρ : Env) : Prop :=
  dP (ρ 5) fun x_p => wA x_p fun x => dP (ρ 6) fun y_p => wA y_p fun y => dI .i64 (ρ 12) fun t12 => K x y t12
theorem tally_Below.d3_elim {K : Addr → Addr → Int → Prop} {ρ : Env} (h0 : tally_Below.d3 K ρ) : ∃ (x : Addr) (y : Addr) (t12 : Int), ρ 5 = .pointer (some x) ∧ ρ 6 = .pointer (some y) ∧ ρ 12 = .int .i64 t12 ∧ K x y t12 := by
  obtain ⟨x_p, e5, h1⟩ := dP_elim h0
  obtain ⟨x, rfl, h2⟩ := wA_elim h1
  obtain ⟨y_p, e6, h3⟩ := dP_elim h2
  obtain ⟨y, rfl, h4⟩ := wA_elim h3
  obtain ⟨t12, e12, h5⟩ := dI_elim h4
  exact ⟨x, y, t12, e5, e6, e12, h5⟩
set_option maxRecDepth 100000 in
theorem tally_Below.f3 (Q : Bool → World → Prop) : ∀ k x y t12 w, tally_Below.b3 Q k x y t12 w → ∀ ρ : Env, ρ 5 = .pointer (some x) → ρ 6 = .pointer (some y) → ρ 12 = .int .i64 t12 → Fin (cx 23) (todoOf Go.Proofs.Try.f10 3) ρ w (tally_Below.R Q) := by
  intro k
  induction k with
  | zero => intro x y t12 w h; exact h.elim
  | succ k ih =>
    intro x y t12 w h ρ e5 e6 e12
    have h : tally_Below.s3 Q (tally_Below.b3 Q k) x y t12 w := h
    refine Fin.cut (ρ' := put (put (put (ρ) (some 5) (.pointer (some x))) (some 6) (.pointer (some y))) (some 12) (.int .i64 t12)) ?_ (by rw [put_id e5, put_id e6, put_id e12])
    refine evT_sound (ok 23) (drawD_sound (ok 23) tally_Below.scr) 600 (L := [(3, fun ρ w => tally_Below.d3 (fun x y t12 => tally_Below.b3 Q k x y t12 w) ρ)]) (leaf_of (fn := Go.Proofs.Try.f10) [3] (by kernel_rfl) ⟨fun ρ w h => by obtain ⟨x, y, t12, e5, e6, e12, h⟩ := tally_Below.d3_elim h; exact ih x y t12 w h ρ e5 e6 e12, trivial⟩) (castK h (by kernel_rfl))
set_option maxRecDepth 100000 in
theorem tally_Below.f2 (Q : Bool → World → Prop) : ∀ x y w, tally_Below.b2 Q x y w → ∀ ρ : Env, ρ 5 = .pointer (some x) → ρ 6 = .pointer (some y) → Fin (cx 23) (todoOf Go.Proofs.Try.f10 2) ρ w (tally_Below.R Q) := by
  intro x y w h ρ e5 e6
  refine Fin.cut (ρ' := put (put (ρ) (some 5) (.pointer (some x))) (some 6) (.pointer (some y))) ?_ (by rw [put_id e5, put_id e6])
  refine evT_sound (ok 23) (drawD_sound (ok 23) tally_Below.scr) 600 (L := [(3, fun ρ w => tally_Below.d3 (fun x y t12 => ∃ k', tally_Below.b3 Q k' x y t12 w) ρ)]) (leaf_of (fn := Go.Proofs.Try.f10) [3] (by kernel_rfl) ⟨fun ρ w h => by obtain ⟨x, y, t12, e5, e6, e12, h⟩ := tally_Below.d3_elim h; obtain ⟨k', h⟩ := h; exact tally_Below.f3 Q k' x y t12 w h ρ e5 e6 e12, trivial⟩) (castK h (by kernel_rfl))
set_option maxRecDepth 100000 in
theorem tally_Below.body (a_Rebuilds : Int) (a_Searches : Int) (a_Builds : Int) (a_Hits : Int) (a_Stale : Int) (a_Evicts : Int) (b_Rebuilds : Int) (b_Searches : Int) (b_Builds : Int) (b_Hits : Int) (b_Stale : Int) (b_Evicts : Int) (w : World) (Q : Bool → World → Prop) (h : tally_Below.sh a_Rebuilds a_Searches a_Builds a_Hits a_Stale a_Evicts b_Rebuilds b_Searches b_Builds b_Hits b_Stale b_Evicts w Q) : tally_Below.call a_Rebuilds a_Searches a_Builds a_Hits a_Stale a_Evicts b_Rebuilds b_Searches b_Builds b_Hits b_Stale b_Evicts w Q := by
  refine call_fn (ok 23) (fn := Go.Proofs.Try.f10) (args := [.agg #[.int .u64 a_Rebuilds, .int .u64 a_Searches, .int .u64 a_Builds, .int .u64 a_Hits, .int .u64 a_Stale, .int .u64 a_Evicts], .agg #[.int .u64 b_Rebuilds, .int .u64 b_Searches, .int .u64 b_Builds, .int .u64 b_Hits, .int .u64 b_Stale, .int .u64 b_Evicts]]) (K := tally_Below.qv Q) Go.Proofs.Try.func10 (by kernel_rfl) (by kernel_rfl) (by kernel_rfl) ?_
  refine evT_sound (ok 23) (drawD_sound (ok 23) tally_Below.scr) 600 (L := [(2, fun ρ w => tally_Below.d2 (fun x y => tally_Below.b2 Q x y w) ρ)]) (leaf_of (fn := Go.Proofs.Try.f10) [2] (by kernel_rfl) ⟨fun ρ w h => by obtain ⟨x, y, e5, e6, h⟩ := tally_Below.d2_elim h; exact tally_Below.f2 Q x y w h ρ e5 e6, trivial⟩) (castK h (by kernel_rfl))
/-! ### 5 herdsman/herdsmanlaw6.TallyOrder -/
def herdsmanlaw6_TallyOrder.b16 (Q : Bool → World → Prop) (a : Addr) (b : Addr) (want : Bool) (w : World) : Prop :=
  herdsmanlaw6_told.call w.drew fun r96 w0_1 =>
  cond r96
  (LdI .u64 (a.add 0) w0_1 fun x98_Rebuilds =>
  LdI .u64 (a.add 1) w0_1 fun x98_Searches =>
  LdI .u64 (a.add 2) w0_1 fun x98_Builds =>
  LdI .u64 (a.add 3) w0_1 fun x98_Hits =>
  LdI .u64 (a.add 4) w0_1 fun x98_Stale =>
  LdI .u64 (a.add 5) w0_1 fun x98_Evicts =>
  LdI .u64 (b.add 0) w0_1 fun x99_Rebuilds =>
  LdI .u64 (b.add 1) w0_1 fun x99_Searches =>
  LdI .u64 (b.add 2) w0_1 fun x99_Builds =>
  LdI .u64 (b.add 3) w0_1 fun x99_Hits =>
  LdI .u64 (b.add 4) w0_1 fun x99_Stale =>
  LdI .u64 (b.add 5) w0_1 fun x99_Evicts =>
  tally_Below.call x98_Rebuilds x98_Searches x98_Builds x98_Hits x98_Stale x98_Evicts x99_Rebuilds x99_Searches x99_Builds x99_Hits x99_Stale x99_Evicts w0_1 fun r100 w0_2 =>
  cond (r100 == want)
  (LdI .u64 (a.add 0) w0_2 fun x105_Rebuilds =>
  LdI .u64 (a.add 1) w0_2 fun x105_Searches =>
  LdI .u64 (a.add 2) w0_2 fun x105_Builds =>
  LdI .u64 (a.add 3) w0_2 fun x105_Hits =>
  LdI .u64 (a.add 4) w0_2 fun x105_Stale =>
  LdI .u64 (a.add 5) w0_2 fun x105_Evicts =>
  LdI .u64 (b.add 0) w0_2 fun x106_Rebuilds =>
  LdI .u64 (b.add 1) w0_2 fun x106_Searches =>
  LdI .u64 (b.add 2) w0_2 fun x106_Builds =>
  LdI .u64 (b.add 3) w0_2 fun x106_Hits =>
  LdI .u64 (b.add 4) w0_2 fun x106_Stale =>
  LdI .u64 (b.add 5) w0_2 fun x106_Evicts =>
  LdI .u64 (a.add 0) w0_2 fun x113_Rebuilds =>
  LdI .u64 (a.add 1) w0_2 fun x113_Searches =>
  LdI .u64 (a.add 2) w0_2 fun x113_Builds =>
  LdI .u64 (a.add 3) w0_2 fun x113_Hits =>
  LdI .u64 (a.add 4) w0_2 fun x113_Stale =>
  LdI .u64 (a.add 5) w0_2 fun x113_Evicts =>
  LdI .u64 (b.add 0) w0_2 fun x114_Rebuilds =>
  LdI .u64 (b.add 1) w0_2 fun x114_Searches =>
  LdI .u64 (b.add 2) w0_2 fun x114_Builds =>
  LdI .u64 (b.add 3) w0_2 fun x114_Hits =>
  LdI .u64 (b.add 4) w0_2 fun x114_Stale =>
  LdI .u64 (b.add 5) w0_2 fun x114_Evicts =>
  (tally_Below.call x105_Rebuilds x105_Searches x105_Builds x105_Hits x105_Stale x105_Evicts x106_Rebuilds x106_Searches x106_Builds x106_Hits x106_Stale x106_Evicts w0_2 fun r107 w0_3 =>
  w0_3.cell? (b.add 0) = some (.int .u64 x114_Rebuilds) ∧
  w0_3.cell? (b.add 1) = some (.int .u64 x114_Searches) ∧
  w0_3.cell? (b.add 2) = some (.int .u64 x114_Builds) ∧
  w0_3.cell? (b.add 3) = some (.int .u64 x114_Hits) ∧
  w0_3.cell? (b.add 4) = some (.int .u64 x114_Stale) ∧
  w0_3.cell? (b.add 5) = some (.int .u64 x114_Evicts) ∧
  w0_3.cell? (a.add 0) = some (.int .u64 x113_Rebuilds) ∧
  w0_3.cell? (a.add 1) = some (.int .u64 x113_Searches) ∧
  w0_3.cell? (a.add 2) = some (.int .u64 x113_Builds) ∧
  w0_3.cell? (a.add 3) = some (.int .u64 x113_Hits) ∧
  w0_3.cell? (a.add 4) = some (.int .u64 x113_Stale) ∧
  w0_3.cell? (a.add 5) = some (.int .u64 x113_Evicts) ∧
  cond r107
  (LdI .u64 (b.add 0) w0_3 fun x109_Rebuilds =>
  LdI .u64 (b.add 1) w0_3 fun x109_Searches =>
  LdI .u64 (b.add 2) w0_3 fun x109_Builds =>
  LdI .u64 (b.add 3) w0_3 fun x109_Hits =>
  LdI .u64 (b.add 4) w0_3 fun x109_Stale =>
  LdI .u64 (b.add 5) w0_3 fun x109_Evicts =>
  LdI .u64 (a.add 0) w0_3 fun x110_Rebuilds =>
  LdI .u64 (a.add 1) w0_3 fun x110_Searches =>
  LdI .u64 (a.add 2) w0_3 fun x110_Builds =>
  LdI .u64 (a.add 3) w0_3 fun x110_Hits =>
  LdI .u64 (a.add 4) w0_3 fun x110_Stale =>
  LdI .u64 (a.add 5) w0_3 fun x110_Evicts =>
  (tally_Below.call x109_Rebuilds x109_Searches x109_Builds x109_Hits x109_Stale x109_Evicts x110_Rebuilds x110_Searches x110_Builds x110_Hits x110_Stale x110_Evicts w0_3 fun r111 w0_4 =>
  w0_4.cell? (b.add 0) = some (.int .u64 x114_Rebuilds) ∧
  w0_4.cell? (b.add 1) = some (.int .u64 x114_Searches) ∧
  w0_4.cell? (b.add 2) = some (.int .u64 x114_Builds) ∧
  w0_4.cell? (b.add 3) = some (.int .u64 x114_Hits) ∧
  w0_4.cell? (b.add 4) = some (.int .u64 x114_Stale) ∧
  w0_4.cell? (b.add 5) = some (.int .u64 x114_Evicts) ∧
  w0_4.cell? (a.add 0) = some (.int .u64 x113_Rebuilds) ∧
  w0_4.cell? (a.add 1) = some (.int .u64 x113_Searches) ∧
  w0_4.cell? (a.add 2) = some (.int .u64 x113_Builds) ∧
  w0_4.cell? (a.add 3) = some (.int .u64 x113_Hits) ∧
  w0_4.cell? (a.add 4) = some (.int .u64 x113_Stale) ∧
  w0_4.cell? (a.add 5) = some (.int .u64 x113_Evicts) ∧
  EqK P .eql 28 (.tmp 113) (.tmp 114) (.agg #[.int .u64 x113_Rebuilds, .int .u64 x113_Searches, .int .u64 x113_Builds, .int .u64 x113_Hits, .int .u64 x113_Stale, .int .u64 x113_Evicts]) (.agg #[.int .u64 x114_Rebuilds, .int .u64 x114_Searches, .int .u64 x114_Builds, .int .u64 x114_Hits, .int .u64 x114_Stale, .int .u64 x114_Evicts]) w0_4 fun b_1 w0_5 =>
  w0_5.cell? (a.add 0) = some (.int .u64 x110_Rebuilds) ∧
  w0_5.cell? (a.add 1) = some (.int .u64 x110_Searches) ∧
  w0_5.cell? (a.add 2) = some (.int .u64 x110_Builds) ∧
  w0_5.cell? (a.add 3) = some (.int .u64 x110_Hits) ∧
  w0_5.cell? (a.add 4) = some (.int .u64 x110_Stale) ∧
  w0_5.cell? (a.add 5) = some (.int .u64 x110_Evicts) ∧
  w0_5.cell? (b.add 0) = some (.int .u64 x109_Rebuilds) ∧
  w0_5.cell? (b.add 1) = some (.int .u64 x109_Searches) ∧
  w0_5.cell? (b.add 2) = some (.int .u64 x109_Builds) ∧
  w0_5.cell? (b.add 3) = some (.int .u64 x109_Hits) ∧
  w0_5.cell? (b.add 4) = some (.int .u64 x109_Stale) ∧
  w0_5.cell? (b.add 5) = some (.int .u64 x109_Evicts) ∧
  w0_5.cell? (b.add 0) = some (.int .u64 x106_Rebuilds) ∧
  w0_5.cell? (b.add 1) = some (.int .u64 x106_Searches) ∧
  w0_5.cell? (b.add 2) = some (.int .u64 x106_Builds) ∧
  w0_5.cell? (b.add 3) = some (.int .u64 x106_Hits) ∧
  w0_5.cell? (b.add 4) = some (.int .u64 x106_Stale) ∧
  w0_5.cell? (b.add 5) = some (.int .u64 x106_Evicts) ∧
  w0_5.cell? (a.add 0) = some (.int .u64 x105_Rebuilds) ∧
  w0_5.cell? (a.add 1) = some (.int .u64 x105_Searches) ∧
  w0_5.cell? (a.add 2) = some (.int .u64 x105_Builds) ∧
  w0_5.cell? (a.add 3) = some (.int .u64 x105_Hits) ∧
  w0_5.cell? (a.add 4) = some (.int .u64 x105_Stale) ∧
  w0_5.cell? (a.add 5) = some (.int .u64 x105_Evicts) ∧
  cond (r111 == b_1)
  (LdI .u64 (a.add 0) w0_5 fun x119_Rebuilds =>
  LdI .u64 (a.add 1) w0_5 fun x119_Searches =>
  LdI .u64 (a.add 2) w0_5 fun x119_Builds =>
  LdI .u64 (a.add 3) w0_5 fun x119_Hits =>
  LdI .u64 (a.add 4) w0_5 fun x119_Stale =>
  LdI .u64 (a.add 5) w0_5 fun x119_Evicts =>
  LdI .u64 (a.add 0) w0_5 fun x120_Rebuilds =>
  LdI .u64 (a.add 1) w0_5 fun x120_Searches =>
  LdI .u64 (a.add 2) w0_5 fun x120_Builds =>
  LdI .u64 (a.add 3) w0_5 fun x120_Hits =>
  LdI .u64 (a.add 4) w0_5 fun x120_Stale =>
  LdI .u64 (a.add 5) w0_5 fun x120_Evicts =>
  tally_Below.call x119_Rebuilds x119_Searches x119_Builds x119_Hits x119_Stale x119_Evicts x120_Rebuilds x120_Searches x120_Builds x120_Hits x120_Stale x120_Evicts w0_5 fun r121 w0_6 =>
  Q r121 w0_6)
  (Q false w0_5)) ∧
  (EqK P .eql 28 (.tmp 113) (.tmp 114) (.agg #[.int .u64 x113_Rebuilds, .int .u64 x113_Searches, .int .u64 x113_Builds, .int .u64 x113_Hits, .int .u64 x113_Stale, .int .u64 x113_Evicts]) (.agg #[.int .u64 x114_Rebuilds, .int .u64 x114_Searches, .int .u64 x114_Builds, .int .u64 x114_Hits, .int .u64 x114_Stale, .int .u64 x114_Evicts]) w0_3 fun b_2 w0_7 =>
  w0_7.cell? (a.add 0) = some (.int .u64 x110_Rebuilds) ∧
  w0_7.cell? (a.add 1) = some (.int .u64 x110_Searches) ∧
  w0_7.cell? (a.add 2) = some (.int .u64 x110_Builds) ∧
  w0_7.cell? (a.add 3) = some (.int .u64 x110_Hits) ∧
  w0_7.cell? (a.add 4) = some (.int .u64 x110_Stale) ∧
  w0_7.cell? (a.add 5) = some (.int .u64 x110_Evicts) ∧
  w0_7.cell? (b.add 0) = some (.int .u64 x109_Rebuilds) ∧
  w0_7.cell? (b.add 1) = some (.int .u64 x109_Searches) ∧
  w0_7.cell? (b.add 2) = some (.int .u64 x109_Builds) ∧
  w0_7.cell? (b.add 3) = some (.int .u64 x109_Hits) ∧
  w0_7.cell? (b.add 4) = some (.int .u64 x109_Stale) ∧
  w0_7.cell? (b.add 5) = some (.int .u64 x109_Evicts) ∧
  w0_7.cell? (b.add 0) = some (.int .u64 x106_Rebuilds) ∧
  w0_7.cell? (b.add 1) = some (.int .u64 x106_Searches) ∧
  w0_7.cell? (b.add 2) = some (.int .u64 x106_Builds) ∧
  w0_7.cell? (b.add 3) = some (.int .u64 x106_Hits) ∧
  w0_7.cell? (b.add 4) = some (.int .u64 x106_Stale) ∧
  w0_7.cell? (b.add 5) = some (.int .u64 x106_Evicts) ∧
  w0_7.cell? (a.add 0) = some (.int .u64 x105_Rebuilds) ∧
  w0_7.cell? (a.add 1) = some (.int .u64 x105_Searches) ∧
  w0_7.cell? (a.add 2) = some (.int .u64 x105_Builds) ∧
  w0_7.cell? (a.add 3) = some (.int .u64 x105_Hits) ∧
  w0_7.cell? (a.add 4) = some (.int .u64 x105_Stale) ∧
  w0_7.cell? (a.add 5) = some (.int .u64 x105_Evicts) ∧
  tally_Below.call x109_Rebuilds x109_Searches x109_Builds x109_Hits x109_Stale x109_Evicts x110_Rebuilds x110_Searches x110_Builds x110_Hits x110_Stale x110_Evicts w0_7 fun r111_1 w0_8 =>
  w0_8.cell? (b.add 0) = some (.int .u64 x114_Rebuilds) ∧
  w0_8.cell? (b.add 1) = some (.int .u64 x114_Searches) ∧
  w0_8.cell? (b.add 2) = some (.int .u64 x114_Builds) ∧
  w0_8.cell? (b.add 3) = some (.int .u64 x114_Hits) ∧
  w0_8.cell? (b.add 4) = some (.int .u64 x114_Stale) ∧
  w0_8.cell? (b.add 5) = some (.int .u64 x114_Evicts) ∧
  w0_8.cell? (a.add 0) = some (.int .u64 x113_Rebuilds) ∧
  w0_8.cell? (a.add 1) = some (.int .u64 x113_Searches) ∧
  w0_8.cell? (a.add 2) = some (.int .u64 x113_Builds) ∧
  w0_8.cell? (a.add 3) = some (.int .u64 x113_Hits) ∧
  w0_8.cell? (a.add 4) = some (.int .u64 x113_Stale) ∧
  w0_8.cell? (a.add 5) = some (.int .u64 x113_Evicts) ∧
  cond (r111_1 == b_2)
  (LdI .u64 (a.add 0) w0_8 fun x119_Rebuilds_1 =>
  LdI .u64 (a.add 1) w0_8 fun x119_Searches_1 =>
  LdI .u64 (a.add 2) w0_8 fun x119_Builds_1 =>
  LdI .u64 (a.add 3) w0_8 fun x119_Hits_1 =>
  LdI .u64 (a.add 4) w0_8 fun x119_Stale_1 =>
  LdI .u64 (a.add 5) w0_8 fun x119_Evicts_1 =>
  LdI .u64 (a.add 0) w0_8 fun x120_Rebuilds_1 =>
  LdI .u64 (a.add 1) w0_8 fun x120_Searches_1 =>
  LdI .u64 (a.add 2) w0_8 fun x120_Builds_1 =>
  LdI .u64 (a.add 3) w0_8 fun x120_Hits_1 =>
  LdI .u64 (a.add 4) w0_8 fun x120_Stale_1 =>
  LdI .u64 (a.add 5) w0_8 fun x120_Evicts_1 =>
  tally_Below.call x119_Rebuilds_1 x119_Searches_1 x119_Builds_1 x119_Hits_1 x119_Stale_1 x119_Evicts_1 x120_Rebuilds_1 x120_Searches_1 x120_Builds_1 x120_Hits_1 x120_Stale_1 x120_Evicts_1 w0_8 fun r121_1 w0_9 =>
  Q r121_1 w0_9)
  (Q false w0_8)))
  ((EqK P .eql 28 (.tmp 113) (.tmp 114) (.agg #[.int .u64 x113_Rebuilds, .int .u64 x113_Searches, .int .u64 x113_Builds, .int .u64 x113_Hits, .int .u64 x113_Stale, .int .u64 x113_Evicts]) (.agg #[.int .u64 x114_Rebuilds, .int .u64 x114_Searches, .int .u64 x114_Builds, .int .u64 x114_Hits, .int .u64 x114_Stale, .int .u64 x114_Evicts]) w0_3 fun b_3 w0_10 =>
  w0_10.cell? (b.add 0) = some (.int .u64 x106_Rebuilds) ∧
  w0_10.cell? (b.add 1) = some (.int .u64 x106_Searches) ∧
  w0_10.cell? (b.add 2) = some (.int .u64 x106_Builds) ∧
  w0_10.cell? (b.add 3) = some (.int .u64 x106_Hits) ∧
  w0_10.cell? (b.add 4) = some (.int .u64 x106_Stale) ∧
  w0_10.cell? (b.add 5) = some (.int .u64 x106_Evicts) ∧
  w0_10.cell? (a.add 0) = some (.int .u64 x105_Rebuilds) ∧
  w0_10.cell? (a.add 1) = some (.int .u64 x105_Searches) ∧
  w0_10.cell? (a.add 2) = some (.int .u64 x105_Builds) ∧
  w0_10.cell? (a.add 3) = some (.int .u64 x105_Hits) ∧
  w0_10.cell? (a.add 4) = some (.int .u64 x105_Stale) ∧
  w0_10.cell? (a.add 5) = some (.int .u64 x105_Evicts) ∧
  cond (false == b_3)
  (LdI .u64 (a.add 0) w0_10 fun x119_Rebuilds_2 =>
  LdI .u64 (a.add 1) w0_10 fun x119_Searches_2 =>
  LdI .u64 (a.add 2) w0_10 fun x119_Builds_2 =>
  LdI .u64 (a.add 3) w0_10 fun x119_Hits_2 =>
  LdI .u64 (a.add 4) w0_10 fun x119_Stale_2 =>
  LdI .u64 (a.add 5) w0_10 fun x119_Evicts_2 =>
  LdI .u64 (a.add 0) w0_10 fun x120_Rebuilds_2 =>
  LdI .u64 (a.add 1) w0_10 fun x120_Searches_2 =>
  LdI .u64 (a.add 2) w0_10 fun x120_Builds_2 =>
  LdI .u64 (a.add 3) w0_10 fun x120_Hits_2 =>
  LdI .u64 (a.add 4) w0_10 fun x120_Stale_2 =>
  LdI .u64 (a.add 5) w0_10 fun x120_Evicts_2 =>
  tally_Below.call x119_Rebuilds_2 x119_Searches_2 x119_Builds_2 x119_Hits_2 x119_Stale_2 x119_Evicts_2 x120_Rebuilds_2 x120_Searches_2 x120_Builds_2 x120_Hits_2 x120_Stale_2 x120_Evicts_2 w0_10 fun r121_2 w0_11 =>
  Q r121_2 w0_11)
  (Q false w0_10)) ∧
  (EqK P .eql 28 (.tmp 113) (.tmp 114) (.agg #[.int .u64 x113_Rebuilds, .int .u64 x113_Searches, .int .u64 x113_Builds, .int .u64 x113_Hits, .int .u64 x113_Stale, .int .u64 x113_Evicts]) (.agg #[.int .u64 x114_Rebuilds, .int .u64 x114_Searches, .int .u64 x114_Builds, .int .u64 x114_Hits, .int .u64 x114_Stale, .int .u64 x114_Evicts]) w0_3 fun b_4 w0_12 =>
  w0_12.cell? (b.add 0) = some (.int .u64 x106_Rebuilds) ∧
  w0_12.cell? (b.add 1) = some (.int .u64 x106_Searches) ∧
  w0_12.cell? (b.add 2) = some (.int .u64 x106_Builds) ∧
  w0_12.cell? (b.add 3) = some (.int .u64 x106_Hits) ∧
  w0_12.cell? (b.add 4) = some (.int .u64 x106_Stale) ∧
  w0_12.cell? (b.add 5) = some (.int .u64 x106_Evicts) ∧
  w0_12.cell? (a.add 0) = some (.int .u64 x105_Rebuilds) ∧
  w0_12.cell? (a.add 1) = some (.int .u64 x105_Searches) ∧
  w0_12.cell? (a.add 2) = some (.int .u64 x105_Builds) ∧
  w0_12.cell? (a.add 3) = some (.int .u64 x105_Hits) ∧
  w0_12.cell? (a.add 4) = some (.int .u64 x105_Stale) ∧
  w0_12.cell? (a.add 5) = some (.int .u64 x105_Evicts) ∧
  cond (false == b_4)
  (LdI .u64 (a.add 0) w0_12 fun x119_Rebuilds_3 =>
  LdI .u64 (a.add 1) w0_12 fun x119_Searches_3 =>
  LdI .u64 (a.add 2) w0_12 fun x119_Builds_3 =>
  LdI .u64 (a.add 3) w0_12 fun x119_Hits_3 =>
  LdI .u64 (a.add 4) w0_12 fun x119_Stale_3 =>
  LdI .u64 (a.add 5) w0_12 fun x119_Evicts_3 =>
  LdI .u64 (a.add 0) w0_12 fun x120_Rebuilds_3 =>
  LdI .u64 (a.add 1) w0_12 fun x120_Searches_3 =>
  LdI .u64 (a.add 2) w0_12 fun x120_Builds_3 =>
  LdI .u64 (a.add 3) w0_12 fun x120_Hits_3 =>
  LdI .u64 (a.add 4) w0_12 fun x120_Stale_3 =>
  LdI .u64 (a.add 5) w0_12 fun x120_Evicts_3 =>
  tally_Below.call x119_Rebuilds_3 x119_Searches_3 x119_Builds_3 x119_Hits_3 x119_Stale_3 x119_Evicts_3 x120_Rebuilds_3 x120_Searches_3 x120_Builds_3 x120_Hits_3 x120_Stale_3 x120_Evicts_3 w0_12 fun r121_3 w0_13 =>
  Q r121_3 w0_13)
  (Q false w0_12)))) ∧
  (EqK P .eql 28 (.tmp 113) (.tmp 114) (.agg #[.int .u64 x113_Rebuilds, .int .u64 x113_Searches, .int .u64 x113_Builds, .int .u64 x113_Hits, .int .u64 x113_Stale, .int .u64 x113_Evicts]) (.agg #[.int .u64 x114_Rebuilds, .int .u64 x114_Searches, .int .u64 x114_Builds, .int .u64 x114_Hits, .int .u64 x114_Stale, .int .u64 x114_Evicts]) w0_2 fun b_5 w0_14 =>
  w0_14.cell? (b.add 0) = some (.int .u64 x106_Rebuilds) ∧
  w0_14.cell? (b.add 1) = some (.int .u64 x106_Searches) ∧
  w0_14.cell? (b.add 2) = some (.int .u64 x106_Builds) ∧
  w0_14.cell? (b.add 3) = some (.int .u64 x106_Hits) ∧
  w0_14.cell? (b.add 4) = some (.int .u64 x106_Stale) ∧
  w0_14.cell? (b.add 5) = some (.int .u64 x106_Evicts) ∧
  w0_14.cell? (a.add 0) = some (.int .u64 x105_Rebuilds) ∧
  w0_14.cell? (a.add 1) = some (.int .u64 x105_Searches) ∧
  w0_14.cell? (a.add 2) = some (.int .u64 x105_Builds) ∧
  w0_14.cell? (a.add 3) = some (.int .u64 x105_Hits) ∧
  w0_14.cell? (a.add 4) = some (.int .u64 x105_Stale) ∧
  w0_14.cell? (a.add 5) = some (.int .u64 x105_Evicts) ∧
  tally_Below.call x105_Rebuilds x105_Searches x105_Builds x105_Hits x105_Stale x105_Evicts x106_Rebuilds x106_Searches x106_Builds x106_Hits x106_Stale x106_Evicts w0_14 fun r107_1 w0_15 =>
  w0_15.cell? (b.add 0) = some (.int .u64 x114_Rebuilds) ∧
  w0_15.cell? (b.add 1) = some (.int .u64 x114_Searches) ∧
  w0_15.cell? (b.add 2) = some (.int .u64 x114_Builds) ∧
  w0_15.cell? (b.add 3) = some (.int .u64 x114_Hits) ∧
  w0_15.cell? (b.add 4) = some (.int .u64 x114_Stale) ∧
  w0_15.cell? (b.add 5) = some (.int .u64 x114_Evicts) ∧
  w0_15.cell? (a.add 0) = some (.int .u64 x113_Rebuilds) ∧
  w0_15.cell? (a.add 1) = some (.int .u64 x113_Searches) ∧
  w0_15.cell? (a.add 2) = some (.int .u64 x113_Builds) ∧
  w0_15.cell? (a.add 3) = some (.int .u64 x113_Hits) ∧
  w0_15.cell? (a.add 4) = some (.int .u64 x113_Stale) ∧
  w0_15.cell? (a.add 5) = some (.int .u64 x113_Evicts) ∧
  cond r107_1
  (LdI .u64 (b.add 0) w0_15 fun x109_Rebuilds_1 =>
  LdI .u64 (b.add 1) w0_15 fun x109_Searches_1 =>
  LdI .u64 (b.add 2) w0_15 fun x109_Builds_1 =>
  LdI .u64 (b.add 3) w0_15 fun x109_Hits_1 =>
  LdI .u64 (b.add 4) w0_15 fun x109_Stale_1 =>
  LdI .u64 (b.add 5) w0_15 fun x109_Evicts_1 =>
  LdI .u64 (a.add 0) w0_15 fun x110_Rebuilds_1 =>
  LdI .u64 (a.add 1) w0_15 fun x110_Searches_1 =>
  LdI .u64 (a.add 2) w0_15 fun x110_Builds_1 =>
  LdI .u64 (a.add 3) w0_15 fun x110_Hits_1 =>
  LdI .u64 (a.add 4) w0_15 fun x110_Stale_1 =>
  LdI .u64 (a.add 5) w0_15 fun x110_Evicts_1 =>
  tally_Below.call x109_Rebuilds_1 x109_Searches_1 x109_Builds_1 x109_Hits_1 x109_Stale_1 x109_Evicts_1 x110_Rebuilds_1 x110_Searches_1 x110_Builds_1 x110_Hits_1 x110_Stale_1 x110_Evicts_1 w0_15 fun r111_2 w0_16 =>
  w0_16.cell? (b.add 0) = some (.int .u64 x114_Rebuilds) ∧
  w0_16.cell? (b.add 1) = some (.int .u64 x114_Searches) ∧
  w0_16.cell? (b.add 2) = some (.int .u64 x114_Builds) ∧
  w0_16.cell? (b.add 3) = some (.int .u64 x114_Hits) ∧
  w0_16.cell? (b.add 4) = some (.int .u64 x114_Stale) ∧
  w0_16.cell? (b.add 5) = some (.int .u64 x114_Evicts) ∧
  w0_16.cell? (a.add 0) = some (.int .u64 x113_Rebuilds) ∧
  w0_16.cell? (a.add 1) = some (.int .u64 x113_Searches) ∧
  w0_16.cell? (a.add 2) = some (.int .u64 x113_Builds) ∧
  w0_16.cell? (a.add 3) = some (.int .u64 x113_Hits) ∧
  w0_16.cell? (a.add 4) = some (.int .u64 x113_Stale) ∧
  w0_16.cell? (a.add 5) = some (.int .u64 x113_Evicts) ∧
  cond (r111_2 == b_5)
  (LdI .u64 (a.add 0) w0_16 fun x119_Rebuilds_4 =>
  LdI .u64 (a.add 1) w0_16 fun x119_Searches_4 =>
  LdI .u64 (a.add 2) w0_16 fun x119_Builds_4 =>
  LdI .u64 (a.add 3) w0_16 fun x119_Hits_4 =>
  LdI .u64 (a.add 4) w0_16 fun x119_Stale_4 =>
  LdI .u64 (a.add 5) w0_16 fun x119_Evicts_4 =>
  LdI .u64 (a.add 0) w0_16 fun x120_Rebuilds_4 =>
  LdI .u64 (a.add 1) w0_16 fun x120_Searches_4 =>
  LdI .u64 (a.add 2) w0_16 fun x120_Builds_4 =>
  LdI .u64 (a.add 3) w0_16 fun x120_Hits_4 =>
  LdI .u64 (a.add 4) w0_16 fun x120_Stale_4 =>
  LdI .u64 (a.add 5) w0_16 fun x120_Evicts_4 =>
  tally_Below.call x119_Rebuilds_4 x119_Searches_4 x119_Builds_4 x119_Hits_4 x119_Stale_4 x119_Evicts_4 x120_Rebuilds_4 x120_Searches_4 x120_Builds_4 x120_Hits_4 x120_Stale_4 x120_Evicts_4 w0_16 fun r121_4 w0_17 =>
  Q r121_4 w0_17)
  (Q false w0_16))
  (cond (false == b_5)
  (LdI .u64 (a.add 0) w0_15 fun x119_Rebuilds_5 =>
  LdI .u64 (a.add 1) w0_15 fun x119_Searches_5 =>
  LdI .u64 (a.add 2) w0_15 fun x119_Builds_5 =>
  LdI .u64 (a.add 3) w0_15 fun x119_Hits_5 =>
  LdI .u64 (a.add 4) w0_15 fun x119_Stale_5 =>
  LdI .u64 (a.add 5) w0_15 fun x119_Evicts_5 =>
  LdI .u64 (a.add 0) w0_15 fun x120_Rebuilds_5 =>
  LdI .u64 (a.add 1) w0_15 fun x120_Searches_5 =>
  LdI .u64 (a.add 2) w0_15 fun x120_Builds_5 =>
  LdI .u64 (a.add 3) w0_15 fun x120_Hits_5 =>
  LdI .u64 (a.add 4) w0_15 fun x120_Stale_5 =>
  LdI .u64 (a.add 5) w0_15 fun x120_Evicts_5 =>
  tally_Below.call x119_Rebuilds_5 x119_Searches_5 x119_Builds_5 x119_Hits_5 x119_Stale_5 x119_Evicts_5 x120_Rebuilds_5 x120_Searches_5 x120_Builds_5 x120_Hits_5 x120_Stale_5 x120_Evicts_5 w0_15 fun r121_5 w0_18 =>
  Q r121_5 w0_18)
  (Q false w0_15))))
  (((Q false w0_2) ∧
  (Q false w0_2)) ∧
  (Q false w0_2)))
  (((Q false w0_1) ∧
  (Q false w0_1)) ∧
  (Q false w0_1))
def herdsmanlaw6_TallyOrder.b15 (Q : Bool → World → Prop) (a : Addr) (b : Addr) (w : World) : Prop :=
  LdI .u64 a w fun x57 =>
  LdI .u64 b w fun x59 =>
  cond (decide (x57 ≤ x59))
  (LdI .u64 (a.add 1) w fun x63 =>
  LdI .u64 (b.add 1) w fun x65 =>
  cond (decide (x63 ≤ x65))
  (LdI .u64 (a.add 2) w fun x70 =>
  LdI .u64 (b.add 2) w fun x72 =>
  cond (decide (x70 ≤ x72))
  (LdI .u64 (a.add 3) w fun x77 =>
  LdI .u64 (b.add 3) w fun x79 =>
  cond (decide (x77 ≤ x79))
  (LdI .u64 (a.add 4) w fun x84 =>
  LdI .u64 (b.add 4) w fun x86 =>
  cond (decide (x84 ≤ x86))
  (LdI .u64 (a.add 5) w fun x91 =>
  LdI .u64 (b.add 5) w fun x93 =>
  herdsmanlaw6_TallyOrder.b16 Q a b (decide (x91 ≤ x93)) w)
  (herdsmanlaw6_TallyOrder.b16 Q a b false w))
  (herdsmanlaw6_TallyOrder.b16 Q a b false w))
  (herdsmanlaw6_TallyOrder.b16 Q a b false w))
  (herdsmanlaw6_TallyOrder.b16 Q a b false w))
  (herdsmanlaw6_TallyOrder.b16 Q a b false w)
def herdsmanlaw6_TallyOrder.sh (a_Rebuilds : Int) (a_Searches : Int) (a_Builds : Int) (a_Hits : Int) (a_Stale : Int) (a_Evicts : Int) (b_Rebuilds : Int) (b_Searches : Int) (b_Builds : Int) (b_Hits : Int) (b_Stale : Int) (b_Evicts : Int) (at0 : Int) (by0 : Int) (one : Bool) (w : World) (Q : Bool → World → Prop) : Prop :=
  Bx [.int .u64 a_Rebuilds, .int .u64 a_Searches, .int .u64 a_Builds, .int .u64 a_Hits, .int .u64 a_Stale, .int .u64 a_Evicts] 28 w fun a_b w0_1 =>
  Bx [.int .u64 b_Rebuilds, .int .u64 b_Searches, .int .u64 b_Builds, .int .u64 b_Hits, .int .u64 b_Stale, .int .u64 b_Evicts] 28 w0_1 fun b_b w0_2 =>
  cond one
  (LdI .u64 (a_b.add 0) w0_2 fun x13_Rebuilds =>
  LdI .u64 (a_b.add 1) w0_2 fun x13_Searches =>
  LdI .u64 (a_b.add 2) w0_2 fun x13_Builds =>
  LdI .u64 (a_b.add 3) w0_2 fun x13_Hits =>
  LdI .u64 (a_b.add 4) w0_2 fun x13_Stale =>
  LdI .u64 (a_b.add 5) w0_2 fun x13_Evicts =>
  St (b_b.add 0) (.int .u64 x13_Rebuilds) w0_2 fun w0_3 =>
  St (b_b.add 1) (.int .u64 x13_Searches) w0_3 fun w0_4 =>
  St (b_b.add 2) (.int .u64 x13_Builds) w0_4 fun w0_5 =>
  St (b_b.add 3) (.int .u64 x13_Hits) w0_5 fun w0_6 =>
  St (b_b.add 4) (.int .u64 x13_Stale) w0_6 fun w0_7 =>
  St (b_b.add 5) (.int .u64 x13_Evicts) w0_7 fun w0_8 =>
  cond ((iand .i64 at0 7) == 0)
  (LdI .u64 b_b w0_8 fun x24 =>
  St b_b (.int .u64 (ixor .u64 x24 by0)) w0_8 fun w0_9 =>
  herdsmanlaw6_TallyOrder.b15 Q a_b b_b w0_9)
  (cond ((iand .i64 at0 7) == 1)
  (LdI .u64 (b_b.add 1) w0_8 fun x31 =>
  St (b_b.add 1) (.int .u64 (ixor .u64 x31 by0)) w0_8 fun w0_10 =>
  herdsmanlaw6_TallyOrder.b15 Q a_b b_b w0_10)
  (cond ((iand .i64 at0 7) == 2)
  (LdI .u64 (b_b.add 2) w0_8 fun x38 =>
  St (b_b.add 2) (.int .u64 (ixor .u64 x38 by0)) w0_8 fun w0_11 =>
  herdsmanlaw6_TallyOrder.b15 Q a_b b_b w0_11)
  (cond ((iand .i64 at0 7) == 3)
  (LdI .u64 (b_b.add 3) w0_8 fun x45 =>
  St (b_b.add 3) (.int .u64 (ixor .u64 x45 by0)) w0_8 fun w0_12 =>
  herdsmanlaw6_TallyOrder.b15 Q a_b b_b w0_12)
  (cond ((iand .i64 at0 7) == 4)
  (LdI .u64 (b_b.add 4) w0_8 fun x52 =>
  St (b_b.add 4) (.int .u64 (ixor .u64 x52 by0)) w0_8 fun w0_13 =>
  herdsmanlaw6_TallyOrder.b15 Q a_b b_b w0_13)
  (LdI .u64 (b_b.add 5) w0_8 fun x17 =>
  St (b_b.add 5) (.int .u64 (ixor .u64 x17 by0)) w0_8 fun w0_14 =>
  herdsmanlaw6_TallyOrder.b15 Q a_b b_b w0_14))))))
  (herdsmanlaw6_TallyOrder.b15 Q a_b b_b w0_2)
noncomputable def herdsmanlaw6_TallyOrder.scr : Scrs := [(16, .op 0 (.op 1 (.op 2 (.op 3 (.op 5 (.op 4 (.op 6 (.op 7 (.op 8 (.op 9 (.op 10 (.op 17 (.op 18 (.br (.op 11 (.op 12 (.op 13 (.op 14 (.br (.op 15 (.op 16 (.op 19 (.op 20 (.op 21 (.op 22 (.op 23 (.op 24 (.op 25 (.op 26 (.op 27 .done))))))))))) (.op 19 (.op 15 (.op 16 (.op 20 (.op 21 (.op 22 (.op 23 (.op 24 (.op 25 (.op 26 (.op 27 .done)))))))))))))))) (.op 19 (.op 11 (.op 12 (.op 13 (.op 14 (.op 15 (.op 16 (.op 20 (.op 21 (.op 22 (.op 23 (.op 24 (.op 25 (.op 26 (.op 27 .done)))))))))))))))))))))))))))))]
def herdsmanlaw6_TallyOrder.R (Q : Bool → World → Prop) (ρ : Env) (w : World) : Prop := evRes (cx 123) Go.Proofs.Try.f5.results.toList ρ w fun vs => herdsmanlaw6_TallyOrder.qv Q (resV vs) w
def herdsmanlaw6_TallyOrder.d15 (K : Addr → Addr → Prop) (ρ : Env) : Prop :=
  dP (ρ 5) fun a_p => wA a_p fun a => dP (ρ 6) fun b_p => wA b_p fun b => K a b
theorem herdsmanlaw6_TallyOrder.d15_elim {K : Addr → Addr → Prop} {ρ : Env} (h0 : herdsmanlaw6_TallyOrder.d15 K ρ) : ∃ (a : Addr) (b : Addr), ρ 5 = .pointer (some a) ∧ ρ 6 = .pointer (some b) ∧ K a b := by
  obtain ⟨a_p, e5, h1⟩ := dP_elim h0
  obtain ⟨a, rfl, h2⟩ := wA_elim h1
  obtain ⟨b_p, e6, h3⟩ := dP_elim h2
  obtain ⟨b, rfl, h4⟩ := wA_elim h3
  exact ⟨a, b, e5, e6, h4⟩
def herdsmanlaw6_TallyOrder.d16 (K : Addr → Addr → Bool → Prop) (ρ : Env) : Prop :=
  dP (ρ 5) fun a_p => wA a_p fun a => dP (ρ 6) fun b_p => wA b_p fun b => dB (ρ 11) fun want => K a b want
theorem herdsmanlaw6_TallyOrder.d16_elim {K : Addr → Addr → Bool → Prop} {ρ : Env} (h0 : herdsmanlaw6_TallyOrder.d16 K ρ) : ∃ (a : Addr) (b : Addr) (want : Bool), ρ 5 = .pointer (some a) ∧ ρ 6 = .pointer (some b) ∧ ρ 11 = .bool want ∧ K a b want := by
  obtain ⟨a_p, e5, h1⟩ := dP_elim h0
  obtain ⟨a, rfl, h2⟩ := wA_elim h1
  obtain ⟨b_p, e6, h3⟩ := dP_elim h2
  obtain ⟨b, rfl, h4⟩ := wA_elim h3
  obtain ⟨want, e11, h5⟩ := dB_elim h4
  exact ⟨a, b, want, e5, e6, e11, h5⟩
set_option maxRecDepth 100000 in
theorem herdsmanlaw6_TallyOrder.f16 (Q : Bool → World → Prop) : ∀ a b want w, herdsmanlaw6_TallyOrder.b16 Q a b want w → ∀ ρ : Env, ρ 5 = .pointer (some a) → ρ 6 = .pointer (some b) → ρ 11 = .bool want → Fin (cx 123) (todoOf Go.Proofs.Try.f5 16) ρ w (herdsmanlaw6_TallyOrder.R Q) := by
  intro a b want w h ρ e5 e6 e11
  refine Fin.cut (ρ' := put (put (put (ρ) (some 5) (.pointer (some a))) (some 6) (.pointer (some b))) (some 11) (.bool want)) ?_ (by rw [put_id e5, put_id e6, put_id e11])
  refine evT_sound (ok 123) (drawD_sound (ok 123) herdsmanlaw6_TallyOrder.scr) 600 (L := []) (leaf_of (fn := Go.Proofs.Try.f5) [] (by kernel_rfl) trivial) (castK h (by kernel_rfl))
set_option maxRecDepth 100000 in
theorem herdsmanlaw6_TallyOrder.f15 (Q : Bool → World → Prop) : ∀ a b w, herdsmanlaw6_TallyOrder.b15 Q a b w → ∀ ρ : Env, ρ 5 = .pointer (some a) → ρ 6 = .pointer (some b) → Fin (cx 123) (todoOf Go.Proofs.Try.f5 15) ρ w (herdsmanlaw6_TallyOrder.R Q) := by
  intro a b w h ρ e5 e6
  refine Fin.cut (ρ' := put (put (ρ) (some 5) (.pointer (some a))) (some 6) (.pointer (some b))) ?_ (by rw [put_id e5, put_id e6])
  refine evT_sound (ok 123) (drawD_sound (ok 123) herdsmanlaw6_TallyOrder.scr) 600 (L := [(16, fun ρ w => herdsmanlaw6_TallyOrder.d16 (fun a b want => herdsmanlaw6_TallyOrder.b16 Q a b want w) ρ)]) (leaf_of (fn := Go.Proofs.Try.f5) [16] (by kernel_rfl) ⟨fun ρ w h => by obtain ⟨a, b, want, e5, e6, e11, h⟩ := herdsmanlaw6_TallyOrder.d16_elim h; exact herdsmanlaw6_TallyOrder.f16 Q a b want w h ρ e5 e6 e11, trivial⟩) (castK h (by kernel_rfl))
set_option maxRecDepth 100000 in
theorem herdsmanlaw6_TallyOrder.body (a_Rebuilds : Int) (a_Searches : Int) (a_Builds : Int) (a_Hits : Int) (a_Stale : Int) (a_Evicts : Int) (b_Rebuilds : Int) (b_Searches : Int) (b_Builds : Int) (b_Hits : Int) (b_Stale : Int) (b_Evicts : Int) (at0 : Int) (by0 : Int) (one : Bool) (w : World) (Q : Bool → World → Prop) (h : herdsmanlaw6_TallyOrder.sh a_Rebuilds a_Searches a_Builds a_Hits a_Stale a_Evicts b_Rebuilds b_Searches b_Builds b_Hits b_Stale b_Evicts at0 by0 one w Q) : herdsmanlaw6_TallyOrder.call a_Rebuilds a_Searches a_Builds a_Hits a_Stale a_Evicts b_Rebuilds b_Searches b_Builds b_Hits b_Stale b_Evicts at0 by0 one w Q := by
  refine call_fn (ok 123) (fn := Go.Proofs.Try.f5) (args := [.agg #[.int .u64 a_Rebuilds, .int .u64 a_Searches, .int .u64 a_Builds, .int .u64 a_Hits, .int .u64 a_Stale, .int .u64 a_Evicts], .agg #[.int .u64 b_Rebuilds, .int .u64 b_Searches, .int .u64 b_Builds, .int .u64 b_Hits, .int .u64 b_Stale, .int .u64 b_Evicts], .int .i64 at0, .int .u64 by0, .bool one]) (K := herdsmanlaw6_TallyOrder.qv Q) Go.Proofs.Try.func5 (by kernel_rfl) (by kernel_rfl) (by kernel_rfl) ?_
  refine evT_sound (ok 123) (drawD_sound (ok 123) herdsmanlaw6_TallyOrder.scr) 600 (L := [(15, fun ρ w => herdsmanlaw6_TallyOrder.d15 (fun a b => herdsmanlaw6_TallyOrder.b15 Q a b w) ρ)]) (leaf_of (fn := Go.Proofs.Try.f5) [15, 15, 15, 15, 15, 15, 15] (by kernel_rfl) ⟨fun ρ w h => by obtain ⟨a, b, e5, e6, h⟩ := herdsmanlaw6_TallyOrder.d15_elim h; exact herdsmanlaw6_TallyOrder.f15 Q a b w h ρ e5 e6, trivial⟩) (castK h (by kernel_rfl))
end Go.Proofs.Ythelhikocaeecaa.S
