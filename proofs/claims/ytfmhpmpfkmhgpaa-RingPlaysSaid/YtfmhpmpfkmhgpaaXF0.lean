/- What the bodies ask, and that a call is no more. Printed by a program of this work (sxgen.py) out of the translation. -/
import Derived.Test.YtfmhpmpfkmhgpaaXT
set_option linter.unusedVariables false
set_option linter.unusedSimpArgs false
namespace Go.Proofs.Ytfmhpmpfkmhgpaa.S
open Go.Sx
/-! ### 8 herdsman/herdsmanref1.Within -/
def herdsmanref1_Within.sh (n : Int) (lo : Int) (hi : Int) (w : World) (Q : Int → World → Prop) : Prop :=
  NZ (IntKind.wrap .i64 ((IntKind.wrap .i64 (hi - lo)) + 1)) <|
  cond (decide ((Int.tmod n (IntKind.wrap .i64 ((IntKind.wrap .i64 (hi - lo)) + 1))) < 0))
  (Q (IntKind.wrap .i64 (lo + (IntKind.wrap .i64 ((IntKind.wrap .i64 ((IntKind.wrap .i64 ((Int.tmod n (IntKind.wrap .i64 ((IntKind.wrap .i64 (hi - lo)) + 1))) + hi)) - lo)) + 1)))) w)
  (Q (IntKind.wrap .i64 (lo + (Int.tmod n (IntKind.wrap .i64 ((IntKind.wrap .i64 (hi - lo)) + 1))))) w)
noncomputable def herdsmanref1_Within.scr : Scrs := []
def herdsmanref1_Within.R (Q : Int → World → Prop) (ρ : Env) (w : World) : Prop := evRes (cx 24) Go.Proofs.Try.f8.results.toList ρ w fun vs => herdsmanref1_Within.qv Q (resV vs) w
set_option maxRecDepth 100000 in
theorem herdsmanref1_Within.body (n : Int) (lo : Int) (hi : Int) (w : World) (Q : Int → World → Prop) (h : herdsmanref1_Within.sh n lo hi w Q) : herdsmanref1_Within.call n lo hi w Q := by
  refine call_fn (ok 24) (fn := Go.Proofs.Try.f8) (args := [.int .i64 n, .int .i64 lo, .int .i64 hi]) (K := herdsmanref1_Within.qv Q) Go.Proofs.Try.func8 (by kernel_rfl) (by kernel_rfl) (by kernel_rfl) ?_
  refine evT_sound (ok 24) (drawD_sound (ok 24) herdsmanref1_Within.scr) 600 (L := []) (leaf_of (fn := Go.Proofs.Try.f8) [] (by kernel_rfl) trivial) (castK h (by kernel_rfl))
/-! ### 9 herdsman/ring.New -/
def ring_New.sh (from0 : Int) (w : World) (Q : Option Addr → World → Prop) : Prop :=
  cond (decide (from0 < 0))
  (Q none w)
  (cond (decide (from0 > 1099511627776))
  (Q none w)
  (Bx [.int .i64 from0, .int .i64 0, .slice none 0 0, .int .i64 0, .slice none 0 0, .int .i64 0, .slice none 0 0, .int .i64 0, .slice none 0 0, .int .i64 0, .slice none 0 0, .int .i64 0, .slice none 0 0, .int .i64 0, .slice none 0 0, .int .i64 0, .slice none 0 0, .int .i64 0, .slice none 0 0, .int .i64 0, .slice none 0 0, .int .i64 0, .slice none 0 0, .int .i64 0, .slice none 0 0, .int .i64 0, .slice none 0 0, .int .i64 0, .slice none 0 0, .int .i64 0, .slice none 0 0, .int .i64 0, .slice none 0 0, .int .i64 0, .slice none 0 0, .int .i64 0, .slice none 0 0, .int .i64 0, .slice none 0 0, .int .i64 0, .slice none 0 0, .int .i64 0, .slice none 0 0, .int .i64 0, .slice none 0 0, .int .i64 0, .slice none 0 0, .int .i64 0, .slice none 0 0, .int .i64 0, .slice none 0 0, .int .i64 0, .slice none 0 0, .int .i64 0, .slice none 0 0, .int .i64 0, .slice none 0 0, .int .i64 0, .slice none 0 0, .int .i64 0, .slice none 0 0, .int .i64 0, .slice none 0 0, .int .i64 0, .slice none 0 0, .int .i64 0, .slice none 0 0, .int .i64 0, .slice none 0 0, .int .i64 0, .slice none 0 0, .int .i64 0, .slice none 0 0, .int .i64 0, .slice none 0 0, .int .i64 0, .slice none 0 0, .int .i64 0, .slice none 0 0, .int .i64 0, .slice none 0 0, .int .i64 0, .slice none 0 0, .int .i64 0, .slice none 0 0, .int .i64 0, .slice none 0 0, .int .i64 0, .slice none 0 0, .int .i64 0, .slice none 0 0, .int .i64 0, .slice none 0 0, .int .i64 0, .slice none 0 0, .int .i64 0, .slice none 0 0, .int .i64 0, .slice none 0 0, .int .i64 0, .slice none 0 0, .int .i64 0, .slice none 0 0, .int .i64 0, .slice none 0 0, .int .i64 0, .slice none 0 0, .int .i64 0, .slice none 0 0, .int .i64 0, .slice none 0 0, .int .i64 0, .slice none 0 0, .int .i64 0, .slice none 0 0, .int .i64 0, .slice none 0 0, .int .i64 0, .slice none 0 0, .int .i64 0, .slice none 0 0, .int .i64 0, .slice none 0 0, .int .i64 0, .slice none 0 0, .int .i64 0, .slice none 0 0, .int .i64 0, .slice none 0 0, .int .i64 0, .slice none 0 0, .int .i64 0, .slice none 0 0, .int .i64 0, .slice none 0 0, .int .i64 0, .slice none 0 0, .int .i64 0, .slice none 0 0, .int .i64 0, .slice none 0 0, .int .i64 0, .slice none 0 0, .int .i64 0, .slice none 0 0, .int .i64 0, .slice none 0 0, .int .i64 0, .slice none 0 0, .int .i64 0, .slice none 0 0, .int .i64 0, .slice none 0 0, .int .i64 0, .slice none 0 0, .int .i64 0, .slice none 0 0, .int .i64 0, .slice none 0 0, .int .i64 0, .slice none 0 0, .int .i64 0, .slice none 0 0, .int .i64 0, .slice none 0 0, .int .i64 0, .slice none 0 0, .int .i64 0, .slice none 0 0, .int .i64 0, .slice none 0 0, .int .i64 0, .slice none 0 0, .int .i64 0, .slice none 0 0, .int .i64 0, .slice none 0 0, .int .i64 0, .slice none 0 0, .int .i64 0, .slice none 0 0, .int .i64 0, .slice none 0 0, .int .i64 0, .slice none 0 0, .int .i64 0, .slice none 0 0, .int .i64 0, .slice none 0 0, .int .i64 0, .slice none 0 0, .int .i64 0, .slice none 0 0, .int .i64 0, .slice none 0 0, .int .i64 0, .slice none 0 0, .int .i64 0, .slice none 0 0, .int .i64 0, .slice none 0 0, .int .i64 0, .slice none 0 0, .int .i64 0, .slice none 0 0, .int .i64 0, .slice none 0 0, .int .i64 0, .slice none 0 0, .int .i64 0, .slice none 0 0, .int .i64 0, .slice none 0 0, .int .i64 0, .slice none 0 0, .int .i64 0, .slice none 0 0, .int .i64 0, .slice none 0 0, .int .i64 0, .slice none 0 0, .int .i64 0, .slice none 0 0, .int .i64 0, .slice none 0 0, .int .i64 0, .slice none 0 0, .int .i64 0, .slice none 0 0, .int .i64 0, .slice none 0 0, .int .i64 0, .slice none 0 0, .int .i64 0, .slice none 0 0, .int .i64 0, .slice none 0 0, .int .i64 0, .slice none 0 0, .int .i64 0, .slice none 0 0, .int .i64 0, .slice none 0 0, .int .i64 0, .slice none 0 0, .int .i64 0, .slice none 0 0, .int .i64 0, .slice none 0 0, .int .i64 0, .slice none 0 0, .int .i64 0, .slice none 0 0, .int .i64 0, .slice none 0 0, .int .i64 0, .slice none 0 0, .int .i64 0, .slice none 0 0, .int .i64 0, .slice none 0 0, .int .i64 0, .slice none 0 0, .int .i64 0, .slice none 0 0, .int .i64 0, .slice none 0 0, .int .i64 0, .slice none 0 0, .int .i64 0, .slice none 0 0, .int .i64 0, .slice none 0 0, .int .i64 0, .slice none 0 0, .int .i64 0, .slice none 0 0, .int .i64 0, .slice none 0 0, .int .i64 0, .slice none 0 0, .int .i64 0, .slice none 0 0, .int .i64 0, .slice none 0 0, .int .i64 0, .slice none 0 0, .int .i64 0, .slice none 0 0, .int .i64 0, .slice none 0 0, .int .i64 0, .slice none 0 0, .int .i64 0, .slice none 0 0, .int .i64 0, .slice none 0 0, .int .i64 0, .slice none 0 0, .int .i64 0, .slice none 0 0, .int .i64 0, .slice none 0 0, .int .i64 0, .slice none 0 0, .int .i64 0, .slice none 0 0, .int .i64 0, .slice none 0 0, .int .i64 0, .slice none 0 0, .int .i64 0, .slice none 0 0, .int .i64 0, .slice none 0 0, .int .i64 0, .slice none 0 0, .int .i64 0, .slice none 0 0, .int .i64 0, .slice none 0 0, .int .i64 0, .slice none 0 0, .int .i64 0, .slice none 0 0, .int .i64 0, .slice none 0 0, .int .i64 0, .slice none 0 0, .int .i64 0, .slice none 0 0, .int .i64 0, .slice none 0 0, .int .i64 0, .slice none 0 0, .int .i64 0, .slice none 0 0, .int .i64 0, .slice none 0 0, .int .i64 0, .slice none 0 0, .int .i64 0, .slice none 0 0, .int .i64 0, .slice none 0 0, .int .i64 0, .slice none 0 0, .int .i64 0, .slice none 0 0, .int .i64 0, .slice none 0 0, .int .i64 0, .slice none 0 0, .int .i64 0, .slice none 0 0, .int .i64 0, .slice none 0 0, .int .i64 0, .slice none 0 0, .int .i64 0, .slice none 0 0, .int .i64 0, .slice none 0 0, .int .i64 0, .slice none 0 0, .int .i64 0, .slice none 0 0, .int .i64 0, .slice none 0 0, .int .i64 0, .slice none 0 0, .int .i64 0, .slice none 0 0, .int .i64 0, .slice none 0 0, .int .i64 0, .slice none 0 0, .int .i64 0, .slice none 0 0, .int .i64 0, .slice none 0 0, .int .i64 0, .slice none 0 0, .int .i64 0, .slice none 0 0, .int .i64 0, .slice none 0 0, .int .i64 0, .slice none 0 0, .int .i64 0, .slice none 0 0, .int .i64 0, .slice none 0 0, .int .i64 0, .slice none 0 0, .int .i64 0, .slice none 0 0, .int .i64 0, .slice none 0 0, .int .i64 0, .slice none 0 0, .int .i64 0, .slice none 0 0, .int .i64 0, .slice none 0 0, .int .i64 0, .slice none 0 0, .int .i64 0, .slice none 0 0, .int .i64 0, .slice none 0 0, .int .i64 0, .slice none 0 0, .int .i64 0, .slice none 0 0, .int .i64 0, .slice none 0 0, .int .i64 0, .slice none 0 0, .int .i64 0, .slice none 0 0, .int .i64 0, .slice none 0 0, .int .i64 0, .slice none 0 0, .int .i64 0, .slice none 0 0, .int .i64 0, .slice none 0 0, .int .i64 0, .slice none 0 0, .int .i64 0, .slice none 0 0, .int .i64 0, .slice none 0 0, .int .i64 0, .slice none 0 0, .int .i64 0, .slice none 0 0, .int .i64 0, .slice none 0 0, .int .i64 0, .slice none 0 0, .int .i64 0, .slice none 0 0, .int .i64 0, .slice none 0 0, .int .i64 0, .slice none 0 0, .int .i64 0, .slice none 0 0, .int .i64 0, .slice none 0 0, .int .i64 0, .slice none 0 0, .int .i64 0, .slice none 0 0, .int .i64 0, .slice none 0 0, .int .i64 0, .slice none 0 0, .int .i64 0, .slice none 0 0, .int .i64 0, .slice none 0 0, .int .i64 0, .slice none 0 0, .int .i64 0, .slice none 0 0, .int .i64 0, .slice none 0 0, .int .i64 0, .slice none 0 0, .int .i64 0, .slice none 0 0, .int .i64 0, .slice none 0 0, .int .i64 0, .slice none 0 0, .int .i64 0, .slice none 0 0, .int .i64 0, .slice none 0 0, .int .i64 0, .slice none 0 0, .int .i64 0, .slice none 0 0, .int .i64 0, .slice none 0 0, .int .i64 0, .slice none 0 0, .int .i64 0, .slice none 0 0, .int .i64 0, .slice none 0 0, .int .i64 0, .slice none 0 0, .int .i64 0, .slice none 0 0, .int .i64 0, .slice none 0 0, .int .i64 0, .slice none 0 0, .int .i64 0, .slice none 0 0, .int .i64 0, .slice none 0 0, .int .i64 0, .slice none 0 0, .int .i64 0, .slice none 0 0, .int .i64 0, .slice none 0 0, .int .i64 0] 47 w fun p11_b w0_1 =>
  Q (some p11_b) w0_1))
noncomputable def ring_New.scr : Scrs := []
def ring_New.R (Q : Option Addr → World → Prop) (ρ : Env) (w : World) : Prop := evRes (cx 12) Go.Proofs.Try.f9.results.toList ρ w fun vs => ring_New.qv Q (resV vs) w
set_option maxRecDepth 100000 in
theorem ring_New.body (from0 : Int) (w : World) (Q : Option Addr → World → Prop) (h : ring_New.sh from0 w Q) : ring_New.call from0 w Q := by
  refine call_fn (ok 12) (fn := Go.Proofs.Try.f9) (args := [.int .i64 from0]) (K := ring_New.qv Q) Go.Proofs.Try.func9 (by kernel_rfl) (by kernel_rfl) (by kernel_rfl) ?_
  refine evT_sound (ok 12) (drawD_sound (ok 12) ring_New.scr) 600 (L := []) (leaf_of (fn := Go.Proofs.Try.f9) [] (by kernel_rfl) trivial) (castK h (by kernel_rfl))
/-! ### 19 (*herdsman/ring.bucket).put -/
def ring_bucket_put.sh (b : Option Addr) (item : Int) (w : World) (Q : World → Prop) : Prop :=
  wA b fun p6 =>
  LdS p6 w fun x8_a x8_n x8_c =>
  Bx [.int .i64 item] 3 w fun p10_s w0_1 =>
  App P #[22, 22] 22 (.slice x8_a x8_n x8_c) (.slice (some p10_s) 1 1) w0_1 fun r11_a r11_n r11_c w0_2 =>
  wA b fun p12 =>
  St p12 (.slice r11_a r11_n r11_c) w0_2 fun w0_3 =>
  Q w0_3
noncomputable def ring_bucket_put.scr : Scrs := []
def ring_bucket_put.R (Q : World → Prop) (ρ : Env) (w : World) : Prop := evRes (cx 14) Go.Proofs.Try.f19.results.toList ρ w fun vs => ring_bucket_put.qv Q (resV vs) w
set_option maxRecDepth 100000 in
theorem ring_bucket_put.body (b : Option Addr) (item : Int) (w : World) (Q : World → Prop) (h : ring_bucket_put.sh b item w Q) : ring_bucket_put.call b item w Q := by
  refine call_fn (ok 14) (fn := Go.Proofs.Try.f19) (args := [.pointer b, .int .i64 item]) (K := ring_bucket_put.qv Q) Go.Proofs.Try.func19 (by kernel_rfl) (by kernel_rfl) (by kernel_rfl) ?_
  refine evT_sound (ok 14) (drawD_sound (ok 14) ring_bucket_put.scr) 600 (L := []) (leaf_of (fn := Go.Proofs.Try.f19) [] (by kernel_rfl) trivial) (castK h (by kernel_rfl))
/-! ### 10 (*herdsman/ring.Ring).Put -/
def ring_Ring_Put.sh (r : Option Addr) (key : Int) (item : Int) (w : World) (Q : Bool → World → Prop) : Prop :=
  cond r.isNone
  (Q false w)
  (wA r fun p12 =>
  LdI .i64 p12 w fun x14 =>
  cond (decide (key < x14))
  (Q false w)
  (wA r fun p20 =>
  LdI .i64 p20 w fun x22 =>
  cond (decide ((IntKind.wrap .i64 (key - x22)) ≥ 256))
  (Q false w)
  (NZ 256 <|
  wA r fun p29 =>
  InB (Int.tmod key 256) 256 <|
  ring_bucket_put.call (some ((p29.add 2).add (((Int.tmod key 256)).toNat * 2))) item w fun w0_1 =>
  wA r fun p35 =>
  LdI .i64 (p35.add 1) w0_1 fun x37 =>
  wA r fun p39 =>
  St (p39.add 1) (.int .i64 (IntKind.wrap .i64 (x37 + 1))) w0_1 fun w0_2 =>
  Q true w0_2)))
noncomputable def ring_Ring_Put.scr : Scrs := []
def ring_Ring_Put.R (Q : Bool → World → Prop) (ρ : Env) (w : World) : Prop := evRes (cx 41) Go.Proofs.Try.f10.results.toList ρ w fun vs => ring_Ring_Put.qv Q (resV vs) w
set_option maxRecDepth 100000 in
theorem ring_Ring_Put.body (r : Option Addr) (key : Int) (item : Int) (w : World) (Q : Bool → World → Prop) (h : ring_Ring_Put.sh r key item w Q) : ring_Ring_Put.call r key item w Q := by
  refine call_fn (ok 41) (fn := Go.Proofs.Try.f10) (args := [.pointer r, .int .i64 key, .int .i64 item]) (K := ring_Ring_Put.qv Q) Go.Proofs.Try.func10 (by kernel_rfl) (by kernel_rfl) (by kernel_rfl) ?_
  refine evT_sound (ok 41) (drawD_sound (ok 41) ring_Ring_Put.scr) 600 (L := []) (leaf_of (fn := Go.Proofs.Try.f10) [] (by kernel_rfl) trivial) (castK h (by kernel_rfl))
/-! ### 14 (*herdsman/ring.Ring).Len -/
def ring_Ring_Len.sh (r : Option Addr) (w : World) (Q : Int → World → Prop) : Prop :=
  cond r.isNone
  (Q 0 w)
  (wA r fun p6 =>
  LdI .i64 (p6.add 1) w fun x8 =>
  Q x8 w)
noncomputable def ring_Ring_Len.scr : Scrs := []
def ring_Ring_Len.R (Q : Int → World → Prop) (ρ : Env) (w : World) : Prop := evRes (cx 9) Go.Proofs.Try.f14.results.toList ρ w fun vs => ring_Ring_Len.qv Q (resV vs) w
set_option maxRecDepth 100000 in
theorem ring_Ring_Len.body (r : Option Addr) (w : World) (Q : Int → World → Prop) (h : ring_Ring_Len.sh r w Q) : ring_Ring_Len.call r w Q := by
  refine call_fn (ok 9) (fn := Go.Proofs.Try.f14) (args := [.pointer r]) (K := ring_Ring_Len.qv Q) Go.Proofs.Try.func14 (by kernel_rfl) (by kernel_rfl) (by kernel_rfl) ?_
  refine evT_sound (ok 9) (drawD_sound (ok 9) ring_Ring_Len.scr) 600 (L := []) (leaf_of (fn := Go.Proofs.Try.f14) [] (by kernel_rfl) trivial) (castK h (by kernel_rfl))
/-! ### 20 (*herdsman/ring.bucket).empty -/
def ring_bucket_empty.sh (b : Option Addr) (w : World) (Q : Bool → World → Prop) : Prop :=
  wA b fun p4 =>
  LdI .i64 (p4.add 1) w.drew fun x6 =>
  wA b fun p8 =>
  LdS p8 w.drew fun x10_a x10_n x10_c =>
  Q (x6 == (x10_n : Int)) w.drew
noncomputable def ring_bucket_empty.scr : Scrs := [(1, .op 0 (.op 1 (.op 2 (.op 3 (.op 4 (.op 5 (.op 6 (.op 7 (.op 8 (.op 9 (.op 10 .done)))))))))))]
def ring_bucket_empty.R (Q : Bool → World → Prop) (ρ : Env) (w : World) : Prop := evRes (cx 13) Go.Proofs.Try.f20.results.toList ρ w fun vs => ring_bucket_empty.qv Q (resV vs) w
set_option maxRecDepth 100000 in
theorem ring_bucket_empty.body (b : Option Addr) (w : World) (Q : Bool → World → Prop) (h : ring_bucket_empty.sh b w Q) : ring_bucket_empty.call b w Q := by
  refine call_fn (ok 13) (fn := Go.Proofs.Try.f20) (args := [.pointer b]) (K := ring_bucket_empty.qv Q) Go.Proofs.Try.func20 (by kernel_rfl) (by kernel_rfl) (by kernel_rfl) ?_
  refine evT_sound (ok 13) (drawD_sound (ok 13) ring_bucket_empty.scr) 600 (L := []) (leaf_of (fn := Go.Proofs.Try.f20) [] (by kernel_rfl) trivial) (castK h (by kernel_rfl))
/-! ### 21 (*herdsman/ring.bucket).pop -/
def ring_bucket_pop.sh (b : Option Addr) (w : World) (Q : Int → World → Prop) : Prop :=
  wA b fun p5 =>
  LdS p5 w.drew fun x7_a x7_n x7_c =>
  wA b fun p9 =>
  LdI .i64 (p9.add 1) w.drew fun x11 =>
  InB x11 x7_n <|
  wA x7_a fun p =>
  LdI .i64 (p.add (x11.toNat * 1)) w.drew fun x13 =>
  wA b fun p15 =>
  LdI .i64 (p15.add 1) w.drew fun x17 =>
  wA b fun p19 =>
  St (p19.add 1) (.int .i64 (IntKind.wrap .i64 (x17 + 1))) w.drew fun w0_1 =>
  ring_bucket_empty.call b w0_1 fun r22 w0_2 =>
  cond r22
  (wA b fun p26 =>
  LdS p26 w0_2 fun x28_a x28_n x28_c =>
  SlK x28_a x28_n x28_c 1 none (some 0) fun s29_a s29_n s29_c =>
  wA b fun p30 =>
  St p30 (.slice s29_a s29_n s29_c) w0_2 fun w0_3 =>
  wA b fun p32 =>
  St (p32.add 1) (.int .i64 0) w0_3 fun w0_4 =>
  Q x13 w0_4)
  (Q x13 w0_2)
noncomputable def ring_bucket_pop.scr : Scrs := [(1, .op 0 (.op 1 (.op 2 (.op 3 (.op 4 (.op 5 (.op 6 (.op 7 (.op 8 (.op 9 (.op 10 .done)))))))))))]
def ring_bucket_pop.R (Q : Int → World → Prop) (ρ : Env) (w : World) : Prop := evRes (cx 35) Go.Proofs.Try.f21.results.toList ρ w fun vs => ring_bucket_pop.qv Q (resV vs) w
set_option maxRecDepth 100000 in
theorem ring_bucket_pop.body (b : Option Addr) (w : World) (Q : Int → World → Prop) (h : ring_bucket_pop.sh b w Q) : ring_bucket_pop.call b w Q := by
  refine call_fn (ok 35) (fn := Go.Proofs.Try.f21) (args := [.pointer b]) (K := ring_bucket_pop.qv Q) Go.Proofs.Try.func21 (by kernel_rfl) (by kernel_rfl) (by kernel_rfl) ?_
  refine evT_sound (ok 35) (drawD_sound (ok 35) ring_bucket_pop.scr) 600 (L := []) (leaf_of (fn := Go.Proofs.Try.f21) [] (by kernel_rfl) trivial) (castK h (by kernel_rfl))
/-! ### 11 (*herdsman/ring.Ring).Pop -/
def ring_Ring_Pop.s3 (Q : Int → Int → Bool → World → Prop) (R3 : Option Addr → World → Prop) (r : Option Addr) (w : World) : Prop :=
  wA r fun p10 =>
  LdI .i64 p10 w.drew fun x12 =>
  NZ 256 <|
  wA r fun p14 =>
  InB (Int.tmod x12 256) 256 <|
  ring_bucket_empty.call (some ((p14.add 2).add (((Int.tmod x12 256)).toNat * 2))) w.drew fun r17 w0_1 =>
  cond r17
  (wA r fun p19 =>
  LdI .i64 p19 w0_1 fun x21 =>
  wA r fun p23 =>
  St p23 (.int .i64 (IntKind.wrap .i64 (x21 + 1))) w0_1 fun w0_2 =>
  R3 r w0_2)
  (wA r fun p26 =>
  LdI .i64 (p26.add 1) w0_1 fun x28 =>
  wA r fun p30 =>
  St (p30.add 1) (.int .i64 (IntKind.wrap .i64 (x28 - 1))) w0_1 fun w0_3 =>
  wA r fun p33 =>
  LdI .i64 p33 w0_3.drew fun x35 =>
  wA r fun p38 =>
  LdI .i64 p38 w0_3.drew fun x40 =>
  NZ 256 <|
  wA r fun p42 =>
  InB (Int.tmod x40 256) 256 <|
  ring_bucket_pop.call (some ((p42.add 2).add (((Int.tmod x40 256)).toNat * 2))) w0_3.drew fun r45 w0_4 =>
  w0_4.cell? p33 = some (.int .i64 x35) ∧
  Q x35 r45 true w0_4)
def ring_Ring_Pop.b3 (Q : Int → Int → Bool → World → Prop) : Nat → Option Addr → World → Prop
  | 0, _, _ => False
  | k + 1, r, w => ring_Ring_Pop.s3 Q (ring_Ring_Pop.b3 Q k) r w
def ring_Ring_Pop.sh (r : Option Addr) (w : World) (Q : Int → Int → Bool → World → Prop) : Prop :=
  ring_Ring_Len.call r w fun r6 w0_1 =>
  cond (r6 == 0)
  (Q 0 0 false w0_1)
  (∃ k', ring_Ring_Pop.b3 Q k' r w0_1)
noncomputable def ring_Ring_Pop.scr : Scrs := [(3, .op 0 (.op 1 (.op 2 (.op 3 (.op 4 (.op 5 (.op 6 (.op 7 (.op 8 (.op 9 .done)))))))))), (6, .op 0 (.op 1 (.op 2 (.op 3 (.op 4 (.op 5 (.op 6 (.op 7 (.op 8 (.op 9 (.op 10 (.op 11 (.op 12 (.op 13 (.op 14 (.op 15 (.op 16 .done)))))))))))))))))]
def ring_Ring_Pop.R (Q : Int → Int → Bool → World → Prop) (ρ : Env) (w : World) : Prop := evRes (cx 46) Go.Proofs.Try.f11.results.toList ρ w fun vs => ring_Ring_Pop.qv Q (resV vs) w
def ring_Ring_Pop.d3 (K : Option Addr → Prop) (ρ : Env) : Prop :=
  dP (ρ 0) fun r => K r
theorem ring_Ring_Pop.d3_elim {K : Option Addr → Prop} {ρ : Env} (h0 : ring_Ring_Pop.d3 K ρ) : ∃ (r : Option Addr), ρ 0 = .pointer r ∧ K r := by
  obtain ⟨r, e0, h1⟩ := dP_elim h0
  exact ⟨r, e0, h1⟩
set_option maxRecDepth 100000 in
theorem ring_Ring_Pop.f3 (Q : Int → Int → Bool → World → Prop) : ∀ k r w, ring_Ring_Pop.b3 Q k r w → ∀ ρ : Env, ρ 0 = .pointer r → Fin (cx 46) (todoOf Go.Proofs.Try.f11 3) ρ w (ring_Ring_Pop.R Q) := by
  intro k
  induction k with
  | zero => intro r w h; exact h.elim
  | succ k ih =>
    intro r w h ρ e0
    have h : ring_Ring_Pop.s3 Q (ring_Ring_Pop.b3 Q k) r w := h
    refine Fin.cut (ρ' := put (ρ) (some 0) (.pointer r)) ?_ (by rw [put_id e0])
    refine evT_sound (ok 46) (drawD_sound (ok 46) ring_Ring_Pop.scr) 600 (L := [(3, fun ρ w => ring_Ring_Pop.d3 (fun r => ring_Ring_Pop.b3 Q k r w) ρ)]) (leaf_of (fn := Go.Proofs.Try.f11) [3] (by kernel_rfl) ⟨fun ρ w h => by obtain ⟨r, e0, h⟩ := ring_Ring_Pop.d3_elim (ρ := ρ) h; exact ih r w h ρ e0, trivial⟩) (castK h (by kernel_rfl))
set_option maxRecDepth 100000 in
theorem ring_Ring_Pop.body (r : Option Addr) (w : World) (Q : Int → Int → Bool → World → Prop) (h : ring_Ring_Pop.sh r w Q) : ring_Ring_Pop.call r w Q := by
  refine call_fn (ok 46) (fn := Go.Proofs.Try.f11) (args := [.pointer r]) (K := ring_Ring_Pop.qv Q) Go.Proofs.Try.func11 (by kernel_rfl) (by kernel_rfl) (by kernel_rfl) ?_
  refine evT_sound (ok 46) (drawD_sound (ok 46) ring_Ring_Pop.scr) 600 (L := [(3, fun ρ w => ring_Ring_Pop.d3 (fun r => ∃ k', ring_Ring_Pop.b3 Q k' r w) ρ)]) (leaf_of (fn := Go.Proofs.Try.f11) [3] (by kernel_rfl) ⟨fun ρ w h => by obtain ⟨r, e0, h⟩ := ring_Ring_Pop.d3_elim (ρ := ρ) h; obtain ⟨k', h⟩ := h; exact ring_Ring_Pop.f3 Q k' r w h ρ e0, trivial⟩) (castK h (by kernel_rfl))
/-! ### 12 (*herdsman/ring.Ring).At -/
def ring_Ring_At.sh (r : Option Addr) (w : World) (Q : Int → World → Prop) : Prop :=
  cond r.isNone
  (Q 0 w)
  (wA r fun p6 =>
  LdI .i64 p6 w fun x8 =>
  Q x8 w)
noncomputable def ring_Ring_At.scr : Scrs := []
def ring_Ring_At.R (Q : Int → World → Prop) (ρ : Env) (w : World) : Prop := evRes (cx 9) Go.Proofs.Try.f12.results.toList ρ w fun vs => ring_Ring_At.qv Q (resV vs) w
set_option maxRecDepth 100000 in
theorem ring_Ring_At.body (r : Option Addr) (w : World) (Q : Int → World → Prop) (h : ring_Ring_At.sh r w Q) : ring_Ring_At.call r w Q := by
  refine call_fn (ok 9) (fn := Go.Proofs.Try.f12) (args := [.pointer r]) (K := ring_Ring_At.qv Q) Go.Proofs.Try.func12 (by kernel_rfl) (by kernel_rfl) (by kernel_rfl) ?_
  refine evT_sound (ok 9) (drawD_sound (ok 9) ring_Ring_At.scr) 600 (L := []) (leaf_of (fn := Go.Proofs.Try.f12) [] (by kernel_rfl) trivial) (castK h (by kernel_rfl))
/-! ### 13 herdsman/herdsmanlaw7.told -/
def herdsmanlaw7_told.sh (w : World) (Q : Bool → World → Prop) : Prop :=
  ring_New.call 10 w fun r5 w0_1 =>
  cond r5.isNone
  (Q false w0_1)
  (ring_Ring_Put.call r5 12 1 w0_1 fun r10 w0_2 =>
  cond (!r10)
  (Q false w0_2)
  (ring_Ring_Put.call r5 10 2 w0_2 fun r15 w0_3 =>
  cond (!r15)
  (Q false w0_3)
  (ring_Ring_Put.call r5 12 3 w0_3 fun r20 w0_4 =>
  cond (!r20)
  (Q false w0_4)
  (ring_Ring_Put.call r5 9 4 w0_4 fun r25 w0_5 =>
  cond r25
  (Q false w0_5)
  (ring_Ring_Pop.call r5 w0_5 fun r29_key r29_item r29_ok w0_6 =>
  cond (r29_key == 10)
  (cond (r29_item == 2)
  (cond r29_ok
  (ring_Ring_Len.call r5 w0_6 fun r44 w0_7 =>
  Q (r44 == 2) w0_7)
  (Q false w0_6))
  (Q false w0_6))
  (Q false w0_6))))))
noncomputable def herdsmanlaw7_told.scr : Scrs := []
def herdsmanlaw7_told.R (Q : Bool → World → Prop) (ρ : Env) (w : World) : Prop := evRes (cx 47) Go.Proofs.Try.f13.results.toList ρ w fun vs => herdsmanlaw7_told.qv Q (resV vs) w
set_option maxRecDepth 100000 in
theorem herdsmanlaw7_told.body (w : World) (Q : Bool → World → Prop) (h : herdsmanlaw7_told.sh w Q) : herdsmanlaw7_told.call w Q := by
  refine call_fn (ok 47) (fn := Go.Proofs.Try.f13) (args := []) (K := herdsmanlaw7_told.qv Q) Go.Proofs.Try.func13 (by kernel_rfl) (by kernel_rfl) (by kernel_rfl) ?_
  refine evT_sound (ok 47) (drawD_sound (ok 47) herdsmanlaw7_told.scr) 600 (L := []) (leaf_of (fn := Go.Proofs.Try.f13) [] (by kernel_rfl) trivial) (castK h (by kernel_rfl))
/-! ### 3 herdsman/herdsmanlaw7.RingAll -/
def herdsmanlaw7_RingAll.b19 (P15 : Option Addr → Nat → Nat → Int → Option Addr → Int → Option Addr → Nat → Nat → Int → Int → Int → World → Prop) (Q : Bool → World → Prop) (w : World) : Prop :=
  Q false w
def herdsmanlaw7_RingAll.b20 (P15 : Option Addr → Nat → Nat → Int → Option Addr → Int → Option Addr → Nat → Nat → Int → Int → Int → World → Prop) (Q : Bool → World → Prop) (l_a : Option Addr) (l_n : Nat) (l_c : Nat) (f : Int) (r : Option Addr) (n : Int) (met_a : Option Addr) (met_n : Nat) (met_c : Nat) (i : Int) (k0 : Int) (x : Int) (w : World) : Prop :=
  InB x met_n <|
  wA met_a fun p =>
  St (p.add (x.toNat * 1)) (.bool true) w fun w0_1 =>
  P15 l_a l_n l_c f r n met_a met_n met_c k0 x (IntKind.wrap .i64 (i + 1)) w0_1
def herdsmanlaw7_RingAll.s15 (Q : Bool → World → Prop) (R15 : Option Addr → Nat → Nat → Int → Option Addr → Int → Option Addr → Nat → Nat → Int → Int → Int → World → Prop) (l_a : Option Addr) (l_n : Nat) (l_c : Nat) (f : Int) (r : Option Addr) (n : Int) (met_a : Option Addr) (met_n : Nat) (met_c : Nat) (key : Int) (item : Int) (i : Int) (w : World) : Prop :=
  cond (decide (i < n))
  (ring_Ring_Pop.call r w fun r57_key r57_item r57_ok w0_1 =>
  cond (!r57_ok)
  (herdsmanlaw7_RingAll.b19 R15 Q w0_1)
  (cond (decide (r57_item < 0))
  (herdsmanlaw7_RingAll.b19 R15 Q w0_1)
  (cond (decide (r57_item ≥ n))
  (herdsmanlaw7_RingAll.b19 R15 Q w0_1)
  (InB r57_item met_n <|
  wA met_a fun p =>
  LdB (p.add (r57_item.toNat * 1)) w0_1 fun x76 =>
  cond x76
  (herdsmanlaw7_RingAll.b19 R15 Q w0_1)
  (InB r57_item l_n <|
  wA l_a fun p_1 =>
  LdI .i64 (p_1.add (r57_item.toNat * 1)) w0_1 fun x84 =>
  herdsmanref1_Within.call x84 0 255 w0_1 fun r85 w0_2 =>
  cond (r57_key != (IntKind.wrap .i64 (f + r85)))
  (herdsmanlaw7_RingAll.b19 R15 Q w0_2)
  (cond (decide (r57_key < key))
  (herdsmanlaw7_RingAll.b19 R15 Q w0_2)
  (cond (r57_key == key)
  (cond (decide (r57_item < item))
  (herdsmanlaw7_RingAll.b19 R15 Q w0_2)
  (ring_Ring_At.call r w0_2 fun r106 w0_3 =>
  cond (r106 != r57_key)
  (herdsmanlaw7_RingAll.b19 R15 Q w0_3)
  (herdsmanlaw7_RingAll.b20 R15 Q l_a l_n l_c f r n met_a met_n met_c i r57_key r57_item w0_3)))
  (ring_Ring_At.call r w0_2 fun r106_1 w0_4 =>
  cond (r106_1 != r57_key)
  (herdsmanlaw7_RingAll.b19 R15 Q w0_4)
  (herdsmanlaw7_RingAll.b20 R15 Q l_a l_n l_c f r n met_a met_n met_c i r57_key r57_item w0_4)))))))))
  (ring_Ring_Pop.call r w fun r117_key r117_item r117_ok w0_5 =>
  herdsmanlaw7_told.call w0_5 fun r121 w0_6 =>
  cond r121
  (cond (!r117_ok)
  (ring_Ring_Len.call r w0_6 fun r128 w0_7 =>
  Q (r128 == 0) w0_7)
  (Q false w0_6))
  (Q false w0_6))
def herdsmanlaw7_RingAll.b15 (Q : Bool → World → Prop) : Nat → Option Addr → Nat → Nat → Int → Option Addr → Int → Option Addr → Nat → Nat → Int → Int → Int → World → Prop
  | 0, _, _, _, _, _, _, _, _, _, _, _, _, _ => False
  | k + 1, l_a, l_n, l_c, f, r, n, met_a, met_n, met_c, key, item, i, w => herdsmanlaw7_RingAll.s15 Q (herdsmanlaw7_RingAll.b15 Q k) l_a l_n l_c f r n met_a met_n met_c key item i w
def herdsmanlaw7_RingAll.b12 (Q : Bool → World → Prop) (l_a : Option Addr) (l_n : Nat) (l_c : Nat) (f : Int) (r : Option Addr) (n : Int) (w : World) : Prop :=
  MkS P 27 (.int .i64 n) (.int .i64 n) w fun s49_a s49_n s49_c w0_1 =>
  ∃ k', herdsmanlaw7_RingAll.b15 Q k' l_a l_n l_c f r n s49_a s49_n s49_c (-1) (-1) 0 w0_1
def herdsmanlaw7_RingAll.s7 (Q : Bool → World → Prop) (R7 : Option Addr → Nat → Nat → Int → Option Addr → Int → Int → World → Prop) (l_a : Option Addr) (l_n : Nat) (l_c : Nat) (f : Int) (r : Option Addr) (n : Int) (i : Int) (w : World) : Prop :=
  cond (decide (i < (l_n : Int)))
  (cond (decide (i < 80))
  (InB i l_n <|
  wA l_a fun p =>
  LdI .i64 (p.add (i.toNat * 1)) w fun x40 =>
  herdsmanref1_Within.call x40 0 255 w fun r41 w0_1 =>
  ring_Ring_Put.call r (IntKind.wrap .i64 (f + r41)) i w0_1 fun r44 w0_2 =>
  cond (!r44)
  (Q false w0_2)
  (R7 l_a l_n l_c f r (IntKind.wrap .i64 (n + 1)) (IntKind.wrap .i64 (i + 1)) w0_2))
  (herdsmanlaw7_RingAll.b12 Q l_a l_n l_c f r n w))
  (herdsmanlaw7_RingAll.b12 Q l_a l_n l_c f r n w)
def herdsmanlaw7_RingAll.b7 (Q : Bool → World → Prop) : Nat → Option Addr → Nat → Nat → Int → Option Addr → Int → Int → World → Prop
  | 0, _, _, _, _, _, _, _, _ => False
  | k + 1, l_a, l_n, l_c, f, r, n, i, w => herdsmanlaw7_RingAll.s7 Q (herdsmanlaw7_RingAll.b7 Q k) l_a l_n l_c f r n i w
def herdsmanlaw7_RingAll.sh (from0 : Int) (l_a : Option Addr) (l_n : Nat) (l_c : Nat) (w : World) (Q : Bool → World → Prop) : Prop :=
  herdsmanref1_Within.call from0 0 1073741824 w fun r20 w0_1 =>
  ring_New.call r20 w0_1 fun r22 w0_2 =>
  cond r22.isNone
  (Q false w0_2)
  (∃ k', herdsmanlaw7_RingAll.b7 Q k' l_a l_n l_c r20 r22 0 0 w0_2)
noncomputable def herdsmanlaw7_RingAll.scr : Scrs := []
def herdsmanlaw7_RingAll.R (Q : Bool → World → Prop) (ρ : Env) (w : World) : Prop := evRes (cx 131) Go.Proofs.Try.f3.results.toList ρ w fun vs => herdsmanlaw7_RingAll.qv Q (resV vs) w
def herdsmanlaw7_RingAll.d7 (K : Option Addr → Nat → Nat → Int → Option Addr → Int → Int → Prop) (ρ : Env) : Prop :=
  dS (ρ 1) fun l_a l_n l_c => dI .i64 (ρ 5) fun f => dP (ρ 6) fun r => dI .i64 (ρ 7) fun n => dI .i64 (ρ 8) fun i => K l_a l_n l_c f r n i
theorem herdsmanlaw7_RingAll.d7_elim {K : Option Addr → Nat → Nat → Int → Option Addr → Int → Int → Prop} {ρ : Env} (h0 : herdsmanlaw7_RingAll.d7 K ρ) : ∃ (l_a : Option Addr) (l_n : Nat) (l_c : Nat) (f : Int) (r : Option Addr) (n : Int) (i : Int), ρ 1 = .slice l_a l_n l_c ∧ ρ 5 = .int .i64 f ∧ ρ 6 = .pointer r ∧ ρ 7 = .int .i64 n ∧ ρ 8 = .int .i64 i ∧ K l_a l_n l_c f r n i := by
  obtain ⟨l_a, l_n, l_c, e1, h1⟩ := dS_elim h0
  obtain ⟨f, e5, h2⟩ := dI_elim h1
  obtain ⟨r, e6, h3⟩ := dP_elim h2
  obtain ⟨n, e7, h4⟩ := dI_elim h3
  obtain ⟨i, e8, h5⟩ := dI_elim h4
  exact ⟨l_a, l_n, l_c, f, r, n, i, e1, e5, e6, e7, e8, h5⟩
def herdsmanlaw7_RingAll.d12 (K : Option Addr → Nat → Nat → Int → Option Addr → Int → Prop) (ρ : Env) : Prop :=
  dS (ρ 1) fun l_a l_n l_c => dI .i64 (ρ 5) fun f => dP (ρ 6) fun r => dI .i64 (ρ 7) fun n => K l_a l_n l_c f r n
theorem herdsmanlaw7_RingAll.d12_elim {K : Option Addr → Nat → Nat → Int → Option Addr → Int → Prop} {ρ : Env} (h0 : herdsmanlaw7_RingAll.d12 K ρ) : ∃ (l_a : Option Addr) (l_n : Nat) (l_c : Nat) (f : Int) (r : Option Addr) (n : Int), ρ 1 = .slice l_a l_n l_c ∧ ρ 5 = .int .i64 f ∧ ρ 6 = .pointer r ∧ ρ 7 = .int .i64 n ∧ K l_a l_n l_c f r n := by
  obtain ⟨l_a, l_n, l_c, e1, h1⟩ := dS_elim h0
  obtain ⟨f, e5, h2⟩ := dI_elim h1
  obtain ⟨r, e6, h3⟩ := dP_elim h2
  obtain ⟨n, e7, h4⟩ := dI_elim h3
  exact ⟨l_a, l_n, l_c, f, r, n, e1, e5, e6, e7, h4⟩
def herdsmanlaw7_RingAll.d15 (K : Option Addr → Nat → Nat → Int → Option Addr → Int → Option Addr → Nat → Nat → Int → Int → Int → Prop) (ρ : Env) : Prop :=
  dS (ρ 1) fun l_a l_n l_c => dI .i64 (ρ 5) fun f => dP (ρ 6) fun r => dI .i64 (ρ 7) fun n => dS (ρ 9) fun met_a met_n met_c => dI .i64 (ρ 10) fun key => dI .i64 (ρ 11) fun item => dI .i64 (ρ 12) fun i => K l_a l_n l_c f r n met_a met_n met_c key item i
theorem herdsmanlaw7_RingAll.d15_elim {K : Option Addr → Nat → Nat → Int → Option Addr → Int → Option Addr → Nat → Nat → Int → Int → Int → Prop} {ρ : Env} (h0 : herdsmanlaw7_RingAll.d15 K ρ) : ∃ (l_a : Option Addr) (l_n : Nat) (l_c : Nat) (f : Int) (r : Option Addr) (n : Int) (met_a : Option Addr) (met_n : Nat) (met_c : Nat) (key : Int) (item : Int) (i : Int), ρ 1 = .slice l_a l_n l_c ∧ ρ 5 = .int .i64 f ∧ ρ 6 = .pointer r ∧ ρ 7 = .int .i64 n ∧ ρ 9 = .slice met_a met_n met_c ∧ ρ 10 = .int .i64 key ∧ ρ 11 = .int .i64 item ∧ ρ 12 = .int .i64 i ∧ K l_a l_n l_c f r n met_a met_n met_c key item i := by
  obtain ⟨l_a, l_n, l_c, e1, h1⟩ := dS_elim h0
  obtain ⟨f, e5, h2⟩ := dI_elim h1
  obtain ⟨r, e6, h3⟩ := dP_elim h2
  obtain ⟨n, e7, h4⟩ := dI_elim h3
  obtain ⟨met_a, met_n, met_c, e9, h5⟩ := dS_elim h4
  obtain ⟨key, e10, h6⟩ := dI_elim h5
  obtain ⟨item, e11, h7⟩ := dI_elim h6
  obtain ⟨i, e12, h8⟩ := dI_elim h7
  exact ⟨l_a, l_n, l_c, f, r, n, met_a, met_n, met_c, key, item, i, e1, e5, e6, e7, e9, e10, e11, e12, h8⟩
def herdsmanlaw7_RingAll.d19 (K : Prop) (ρ : Env) : Prop :=
  K
theorem herdsmanlaw7_RingAll.d19_elim {K : Prop} {ρ : Env} (h0 : herdsmanlaw7_RingAll.d19 K ρ) : K := by
  exact h0
def herdsmanlaw7_RingAll.d20 (K : Option Addr → Nat → Nat → Int → Option Addr → Int → Option Addr → Nat → Nat → Int → Int → Int → Prop) (ρ : Env) : Prop :=
  dS (ρ 1) fun l_a l_n l_c => dI .i64 (ρ 5) fun f => dP (ρ 6) fun r => dI .i64 (ρ 7) fun n => dS (ρ 9) fun met_a met_n met_c => dI .i64 (ρ 12) fun i => dI .i64 (ρ 13) fun k0 => dI .i64 (ρ 14) fun x => K l_a l_n l_c f r n met_a met_n met_c i k0 x
theorem herdsmanlaw7_RingAll.d20_elim {K : Option Addr → Nat → Nat → Int → Option Addr → Int → Option Addr → Nat → Nat → Int → Int → Int → Prop} {ρ : Env} (h0 : herdsmanlaw7_RingAll.d20 K ρ) : ∃ (l_a : Option Addr) (l_n : Nat) (l_c : Nat) (f : Int) (r : Option Addr) (n : Int) (met_a : Option Addr) (met_n : Nat) (met_c : Nat) (i : Int) (k0 : Int) (x : Int), ρ 1 = .slice l_a l_n l_c ∧ ρ 5 = .int .i64 f ∧ ρ 6 = .pointer r ∧ ρ 7 = .int .i64 n ∧ ρ 9 = .slice met_a met_n met_c ∧ ρ 12 = .int .i64 i ∧ ρ 13 = .int .i64 k0 ∧ ρ 14 = .int .i64 x ∧ K l_a l_n l_c f r n met_a met_n met_c i k0 x := by
  obtain ⟨l_a, l_n, l_c, e1, h1⟩ := dS_elim h0
  obtain ⟨f, e5, h2⟩ := dI_elim h1
  obtain ⟨r, e6, h3⟩ := dP_elim h2
  obtain ⟨n, e7, h4⟩ := dI_elim h3
  obtain ⟨met_a, met_n, met_c, e9, h5⟩ := dS_elim h4
  obtain ⟨i, e12, h6⟩ := dI_elim h5
  obtain ⟨k0, e13, h7⟩ := dI_elim h6
  obtain ⟨x, e14, h8⟩ := dI_elim h7
  exact ⟨l_a, l_n, l_c, f, r, n, met_a, met_n, met_c, i, k0, x, e1, e5, e6, e7, e9, e12, e13, e14, h8⟩
set_option maxRecDepth 100000 in
theorem herdsmanlaw7_RingAll.f19 (P15 : Option Addr → Nat → Nat → Int → Option Addr → Int → Option Addr → Nat → Nat → Int → Int → Int → World → Prop) (Q : Bool → World → Prop) (HP15 : ∀ l_a l_n l_c f r n met_a met_n met_c key item i w, P15 l_a l_n l_c f r n met_a met_n met_c key item i w → ∀ ρ : Env, ρ 1 = .slice l_a l_n l_c → ρ 5 = .int .i64 f → ρ 6 = .pointer r → ρ 7 = .int .i64 n → ρ 9 = .slice met_a met_n met_c → ρ 10 = .int .i64 key → ρ 11 = .int .i64 item → ρ 12 = .int .i64 i → Fin (cx 131) (todoOf Go.Proofs.Try.f3 15) ρ w (herdsmanlaw7_RingAll.R Q)) : ∀ w, herdsmanlaw7_RingAll.b19 P15 Q w → ∀ ρ : Env, Fin (cx 131) (todoOf Go.Proofs.Try.f3 19) ρ w (herdsmanlaw7_RingAll.R Q) := by
  intro w h ρ
  refine evT_sound (ok 131) (drawD_sound (ok 131) herdsmanlaw7_RingAll.scr) 600 (L := []) (leaf_of (fn := Go.Proofs.Try.f3) [] (by kernel_rfl) trivial) (castK h (by kernel_rfl))
set_option maxRecDepth 100000 in
theorem herdsmanlaw7_RingAll.f20 (P15 : Option Addr → Nat → Nat → Int → Option Addr → Int → Option Addr → Nat → Nat → Int → Int → Int → World → Prop) (Q : Bool → World → Prop) (HP15 : ∀ l_a l_n l_c f r n met_a met_n met_c key item i w, P15 l_a l_n l_c f r n met_a met_n met_c key item i w → ∀ ρ : Env, ρ 1 = .slice l_a l_n l_c → ρ 5 = .int .i64 f → ρ 6 = .pointer r → ρ 7 = .int .i64 n → ρ 9 = .slice met_a met_n met_c → ρ 10 = .int .i64 key → ρ 11 = .int .i64 item → ρ 12 = .int .i64 i → Fin (cx 131) (todoOf Go.Proofs.Try.f3 15) ρ w (herdsmanlaw7_RingAll.R Q)) : ∀ l_a l_n l_c f r n met_a met_n met_c i k0 x w, herdsmanlaw7_RingAll.b20 P15 Q l_a l_n l_c f r n met_a met_n met_c i k0 x w → ∀ ρ : Env, ρ 1 = .slice l_a l_n l_c → ρ 5 = .int .i64 f → ρ 6 = .pointer r → ρ 7 = .int .i64 n → ρ 9 = .slice met_a met_n met_c → ρ 12 = .int .i64 i → ρ 13 = .int .i64 k0 → ρ 14 = .int .i64 x → Fin (cx 131) (todoOf Go.Proofs.Try.f3 20) ρ w (herdsmanlaw7_RingAll.R Q) := by
  intro l_a l_n l_c f r n met_a met_n met_c i k0 x w h ρ e1 e5 e6 e7 e9 e12 e13 e14
  refine Fin.cut (ρ' := put (put (put (put (put (put (put (put (ρ) (some 1) (.slice l_a l_n l_c)) (some 5) (.int .i64 f)) (some 6) (.pointer r)) (some 7) (.int .i64 n)) (some 9) (.slice met_a met_n met_c)) (some 12) (.int .i64 i)) (some 13) (.int .i64 k0)) (some 14) (.int .i64 x)) ?_ (by rw [put_id e1, put_id e5, put_id e6, put_id e7, put_id e9, put_id e12, put_id e13, put_id e14])
  refine evT_sound (ok 131) (drawD_sound (ok 131) herdsmanlaw7_RingAll.scr) 600 (L := [(15, fun ρ w => herdsmanlaw7_RingAll.d15 (fun l_a l_n l_c f r n met_a met_n met_c key item i => P15 l_a l_n l_c f r n met_a met_n met_c key item i w) ρ)]) (leaf_of (fn := Go.Proofs.Try.f3) [15] (by kernel_rfl) ⟨fun ρ w h => by obtain ⟨l_a, l_n, l_c, f, r, n, met_a, met_n, met_c, key, item, i, e1, e5, e6, e7, e9, e10, e11, e12, h⟩ := herdsmanlaw7_RingAll.d15_elim (ρ := ρ) h; exact HP15 l_a l_n l_c f r n met_a met_n met_c key item i w h ρ e1 e5 e6 e7 e9 e10 e11 e12, trivial⟩) (castK h (by kernel_rfl))
set_option maxRecDepth 100000 in
theorem herdsmanlaw7_RingAll.f15 (Q : Bool → World → Prop) : ∀ k l_a l_n l_c f r n met_a met_n met_c key item i w, herdsmanlaw7_RingAll.b15 Q k l_a l_n l_c f r n met_a met_n met_c key item i w → ∀ ρ : Env, ρ 1 = .slice l_a l_n l_c → ρ 5 = .int .i64 f → ρ 6 = .pointer r → ρ 7 = .int .i64 n → ρ 9 = .slice met_a met_n met_c → ρ 10 = .int .i64 key → ρ 11 = .int .i64 item → ρ 12 = .int .i64 i → Fin (cx 131) (todoOf Go.Proofs.Try.f3 15) ρ w (herdsmanlaw7_RingAll.R Q) := by
  intro k
  induction k with
  | zero => intro l_a l_n l_c f r n met_a met_n met_c key item i w h; exact h.elim
  | succ k ih =>
    intro l_a l_n l_c f r n met_a met_n met_c key item i w h ρ e1 e5 e6 e7 e9 e10 e11 e12
    have h : herdsmanlaw7_RingAll.s15 Q (herdsmanlaw7_RingAll.b15 Q k) l_a l_n l_c f r n met_a met_n met_c key item i w := h
    refine Fin.cut (ρ' := put (put (put (put (put (put (put (put (ρ) (some 1) (.slice l_a l_n l_c)) (some 5) (.int .i64 f)) (some 6) (.pointer r)) (some 7) (.int .i64 n)) (some 9) (.slice met_a met_n met_c)) (some 10) (.int .i64 key)) (some 11) (.int .i64 item)) (some 12) (.int .i64 i)) ?_ (by rw [put_id e1, put_id e5, put_id e6, put_id e7, put_id e9, put_id e10, put_id e11, put_id e12])
    refine evT_sound (ok 131) (drawD_sound (ok 131) herdsmanlaw7_RingAll.scr) 600 (L := [(19, fun ρ w => herdsmanlaw7_RingAll.d19 (herdsmanlaw7_RingAll.b19 (herdsmanlaw7_RingAll.b15 Q k) Q w) ρ), (20, fun ρ w => herdsmanlaw7_RingAll.d20 (fun l_a l_n l_c f r n met_a met_n met_c i k0 x => herdsmanlaw7_RingAll.b20 (herdsmanlaw7_RingAll.b15 Q k) Q l_a l_n l_c f r n met_a met_n met_c i k0 x w) ρ)]) (leaf_of (fn := Go.Proofs.Try.f3) [19, 20] (by kernel_rfl) ⟨fun ρ w h => by have h := herdsmanlaw7_RingAll.d19_elim (ρ := ρ) h; exact herdsmanlaw7_RingAll.f19 (herdsmanlaw7_RingAll.b15 Q k) Q ih w h ρ, fun ρ w h => by obtain ⟨l_a, l_n, l_c, f, r, n, met_a, met_n, met_c, i, k0, x, e1, e5, e6, e7, e9, e12, e13, e14, h⟩ := herdsmanlaw7_RingAll.d20_elim (ρ := ρ) h; exact herdsmanlaw7_RingAll.f20 (herdsmanlaw7_RingAll.b15 Q k) Q ih l_a l_n l_c f r n met_a met_n met_c i k0 x w h ρ e1 e5 e6 e7 e9 e12 e13 e14, trivial⟩) (castK h (by kernel_rfl))
set_option maxRecDepth 100000 in
theorem herdsmanlaw7_RingAll.f12 (Q : Bool → World → Prop) : ∀ l_a l_n l_c f r n w, herdsmanlaw7_RingAll.b12 Q l_a l_n l_c f r n w → ∀ ρ : Env, ρ 1 = .slice l_a l_n l_c → ρ 5 = .int .i64 f → ρ 6 = .pointer r → ρ 7 = .int .i64 n → Fin (cx 131) (todoOf Go.Proofs.Try.f3 12) ρ w (herdsmanlaw7_RingAll.R Q) := by
  intro l_a l_n l_c f r n w h ρ e1 e5 e6 e7
  refine Fin.cut (ρ' := put (put (put (put (ρ) (some 1) (.slice l_a l_n l_c)) (some 5) (.int .i64 f)) (some 6) (.pointer r)) (some 7) (.int .i64 n)) ?_ (by rw [put_id e1, put_id e5, put_id e6, put_id e7])
  refine evT_sound (ok 131) (drawD_sound (ok 131) herdsmanlaw7_RingAll.scr) 600 (L := [(15, fun ρ w => herdsmanlaw7_RingAll.d15 (fun l_a l_n l_c f r n met_a met_n met_c key item i => ∃ k', herdsmanlaw7_RingAll.b15 Q k' l_a l_n l_c f r n met_a met_n met_c key item i w) ρ)]) (leaf_of (fn := Go.Proofs.Try.f3) [15] (by kernel_rfl) ⟨fun ρ w h => by obtain ⟨l_a, l_n, l_c, f, r, n, met_a, met_n, met_c, key, item, i, e1, e5, e6, e7, e9, e10, e11, e12, h⟩ := herdsmanlaw7_RingAll.d15_elim (ρ := ρ) h; obtain ⟨k', h⟩ := h; exact herdsmanlaw7_RingAll.f15 Q k' l_a l_n l_c f r n met_a met_n met_c key item i w h ρ e1 e5 e6 e7 e9 e10 e11 e12, trivial⟩) (castK h (by kernel_rfl))
set_option maxRecDepth 100000 in
theorem herdsmanlaw7_RingAll.f7 (Q : Bool → World → Prop) : ∀ k l_a l_n l_c f r n i w, herdsmanlaw7_RingAll.b7 Q k l_a l_n l_c f r n i w → ∀ ρ : Env, ρ 1 = .slice l_a l_n l_c → ρ 5 = .int .i64 f → ρ 6 = .pointer r → ρ 7 = .int .i64 n → ρ 8 = .int .i64 i → Fin (cx 131) (todoOf Go.Proofs.Try.f3 7) ρ w (herdsmanlaw7_RingAll.R Q) := by
  intro k
  induction k with
  | zero => intro l_a l_n l_c f r n i w h; exact h.elim
  | succ k ih =>
    intro l_a l_n l_c f r n i w h ρ e1 e5 e6 e7 e8
    have h : herdsmanlaw7_RingAll.s7 Q (herdsmanlaw7_RingAll.b7 Q k) l_a l_n l_c f r n i w := h
    refine Fin.cut (ρ' := put (put (put (put (put (ρ) (some 1) (.slice l_a l_n l_c)) (some 5) (.int .i64 f)) (some 6) (.pointer r)) (some 7) (.int .i64 n)) (some 8) (.int .i64 i)) ?_ (by rw [put_id e1, put_id e5, put_id e6, put_id e7, put_id e8])
    refine evT_sound (ok 131) (drawD_sound (ok 131) herdsmanlaw7_RingAll.scr) 600 (L := [(7, fun ρ w => herdsmanlaw7_RingAll.d7 (fun l_a l_n l_c f r n i => herdsmanlaw7_RingAll.b7 Q k l_a l_n l_c f r n i w) ρ), (12, fun ρ w => herdsmanlaw7_RingAll.d12 (fun l_a l_n l_c f r n => herdsmanlaw7_RingAll.b12 Q l_a l_n l_c f r n w) ρ)]) (leaf_of (fn := Go.Proofs.Try.f3) [7, 12] (by kernel_rfl) ⟨fun ρ w h => by obtain ⟨l_a, l_n, l_c, f, r, n, i, e1, e5, e6, e7, e8, h⟩ := herdsmanlaw7_RingAll.d7_elim (ρ := ρ) h; exact ih l_a l_n l_c f r n i w h ρ e1 e5 e6 e7 e8, fun ρ w h => by obtain ⟨l_a, l_n, l_c, f, r, n, e1, e5, e6, e7, h⟩ := herdsmanlaw7_RingAll.d12_elim (ρ := ρ) h; exact herdsmanlaw7_RingAll.f12 Q l_a l_n l_c f r n w h ρ e1 e5 e6 e7, trivial⟩) (castK h (by kernel_rfl))
set_option maxRecDepth 100000 in
theorem herdsmanlaw7_RingAll.body (from0 : Int) (l_a : Option Addr) (l_n : Nat) (l_c : Nat) (w : World) (Q : Bool → World → Prop) (h : herdsmanlaw7_RingAll.sh from0 l_a l_n l_c w Q) : herdsmanlaw7_RingAll.call from0 l_a l_n l_c w Q := by
  refine call_fn (ok 131) (fn := Go.Proofs.Try.f3) (args := [.int .i64 from0, .slice l_a l_n l_c]) (K := herdsmanlaw7_RingAll.qv Q) Go.Proofs.Try.func3 (by kernel_rfl) (by kernel_rfl) (by kernel_rfl) ?_
  refine evT_sound (ok 131) (drawD_sound (ok 131) herdsmanlaw7_RingAll.scr) 600 (L := [(7, fun ρ w => herdsmanlaw7_RingAll.d7 (fun l_a l_n l_c f r n i => ∃ k', herdsmanlaw7_RingAll.b7 Q k' l_a l_n l_c f r n i w) ρ)]) (leaf_of (fn := Go.Proofs.Try.f3) [7] (by kernel_rfl) ⟨fun ρ w h => by obtain ⟨l_a, l_n, l_c, f, r, n, i, e1, e5, e6, e7, e8, h⟩ := herdsmanlaw7_RingAll.d7_elim (ρ := ρ) h; obtain ⟨k', h⟩ := h; exact herdsmanlaw7_RingAll.f7 Q k' l_a l_n l_c f r n i w h ρ e1 e5 e6 e7 e8, trivial⟩) (castK h (by kernel_rfl))
/-! ### 4 herdsman/herdsmanlaw7.RingRound -/
def herdsmanlaw7_RingRound.b14 (Q : Bool → World → Prop) (f : Int) (r : Option Addr) (w : World) : Prop :=
  herdsmanlaw7_told.call w fun r90 w0_1 =>
  cond r90
  (ring_Ring_Len.call r w0_1 fun r93 w0_2 =>
  cond (r93 == 2)
  (ring_Ring_At.call r w0_2 fun r98 w0_3 =>
  Q (decide (r98 ≥ f)) w0_3)
  (Q false w0_2))
  (Q false w0_1)
def herdsmanlaw7_RingRound.s7 (Q : Bool → World → Prop) (R7 : Option Addr → Nat → Nat → Int → Option Addr → Int → Int → World → Prop) (l_a : Option Addr) (l_n : Nat) (l_c : Nat) (f : Int) (r : Option Addr) (at0 : Int) (i : Int) (w : World) : Prop :=
  cond (decide (i < (l_n : Int)))
  (cond (decide (i < 200))
  (ring_Ring_Pop.call r w fun r45_key r45_item r45_ok w0_1 =>
  InB i l_n <|
  wA l_a fun p =>
  LdI .i64 (p.add (i.toNat * 1)) w0_1 fun x52 =>
  herdsmanref1_Within.call x52 0 255 w0_1 fun r53 w0_2 =>
  cond (!r45_ok)
  (Q false w0_2)
  (cond (decide (r45_key < at0))
  (Q false w0_2)
  (ring_Ring_Put.call r (IntKind.wrap .i64 (r45_key + 256)) i w0_2 fun r66 w0_3 =>
  cond r66
  (Q false w0_3)
  (ring_Ring_Put.call r (IntKind.wrap .i64 (r45_key - 1)) i w0_3 fun r73 w0_4 =>
  cond r73
  (Q false w0_4)
  (ring_Ring_Put.call r (IntKind.wrap .i64 (r45_key + r53)) i w0_4 fun r81 w0_5 =>
  cond (!r81)
  (Q false w0_5)
  (ring_Ring_Len.call r w0_5 fun r86 w0_6 =>
  cond (r86 != 2)
  (Q false w0_6)
  (R7 l_a l_n l_c f r r45_key (IntKind.wrap .i64 (i + 1)) w0_6)))))))
  (herdsmanlaw7_RingRound.b14 Q f r w))
  (herdsmanlaw7_RingRound.b14 Q f r w)
def herdsmanlaw7_RingRound.b7 (Q : Bool → World → Prop) : Nat → Option Addr → Nat → Nat → Int → Option Addr → Int → Int → World → Prop
  | 0, _, _, _, _, _, _, _, _ => False
  | k + 1, l_a, l_n, l_c, f, r, at0, i, w => herdsmanlaw7_RingRound.s7 Q (herdsmanlaw7_RingRound.b7 Q k) l_a l_n l_c f r at0 i w
def herdsmanlaw7_RingRound.sh (from0 : Int) (l_a : Option Addr) (l_n : Nat) (l_c : Nat) (w : World) (Q : Bool → World → Prop) : Prop :=
  herdsmanref1_Within.call from0 0 1073741824 w fun r14 w0_1 =>
  ring_New.call r14 w0_1 fun r16 w0_2 =>
  cond r16.isNone
  (Q false w0_2)
  (ring_Ring_Put.call r16 r14 0 w0_2 fun r22 w0_3 =>
  cond (!r22)
  (Q false w0_3)
  (ring_Ring_Put.call r16 (IntKind.wrap .i64 (r14 + 255)) (-1) w0_3 fun r29 w0_4 =>
  cond (!r29)
  (Q false w0_4)
  (∃ k', herdsmanlaw7_RingRound.b7 Q k' l_a l_n l_c r14 r16 r14 0 w0_4)))
noncomputable def herdsmanlaw7_RingRound.scr : Scrs := []
def herdsmanlaw7_RingRound.R (Q : Bool → World → Prop) (ρ : Env) (w : World) : Prop := evRes (cx 102) Go.Proofs.Try.f4.results.toList ρ w fun vs => herdsmanlaw7_RingRound.qv Q (resV vs) w
def herdsmanlaw7_RingRound.d7 (K : Option Addr → Nat → Nat → Int → Option Addr → Int → Int → Prop) (ρ : Env) : Prop :=
  dS (ρ 1) fun l_a l_n l_c => dI .i64 (ρ 5) fun f => dP (ρ 6) fun r => dI .i64 (ρ 7) fun at0 => dI .i64 (ρ 8) fun i => K l_a l_n l_c f r at0 i
theorem herdsmanlaw7_RingRound.d7_elim {K : Option Addr → Nat → Nat → Int → Option Addr → Int → Int → Prop} {ρ : Env} (h0 : herdsmanlaw7_RingRound.d7 K ρ) : ∃ (l_a : Option Addr) (l_n : Nat) (l_c : Nat) (f : Int) (r : Option Addr) (at0 : Int) (i : Int), ρ 1 = .slice l_a l_n l_c ∧ ρ 5 = .int .i64 f ∧ ρ 6 = .pointer r ∧ ρ 7 = .int .i64 at0 ∧ ρ 8 = .int .i64 i ∧ K l_a l_n l_c f r at0 i := by
  obtain ⟨l_a, l_n, l_c, e1, h1⟩ := dS_elim h0
  obtain ⟨f, e5, h2⟩ := dI_elim h1
  obtain ⟨r, e6, h3⟩ := dP_elim h2
  obtain ⟨at0, e7, h4⟩ := dI_elim h3
  obtain ⟨i, e8, h5⟩ := dI_elim h4
  exact ⟨l_a, l_n, l_c, f, r, at0, i, e1, e5, e6, e7, e8, h5⟩
def herdsmanlaw7_RingRound.d14 (K : Int → Option Addr → Prop) (ρ : Env) : Prop :=
  dI .i64 (ρ 5) fun f => dP (ρ 6) fun r => K f r
theorem herdsmanlaw7_RingRound.d14_elim {K : Int → Option Addr → Prop} {ρ : Env} (h0 : herdsmanlaw7_RingRound.d14 K ρ) : ∃ (f : Int) (r : Option Addr), ρ 5 = .int .i64 f ∧ ρ 6 = .pointer r ∧ K f r := by
  obtain ⟨f, e5, h1⟩ := dI_elim h0
  obtain ⟨r, e6, h2⟩ := dP_elim h1
  exact ⟨f, r, e5, e6, h2⟩
set_option maxRecDepth 100000 in
theorem herdsmanlaw7_RingRound.f14 (Q : Bool → World → Prop) : ∀ f r w, herdsmanlaw7_RingRound.b14 Q f r w → ∀ ρ : Env, ρ 5 = .int .i64 f → ρ 6 = .pointer r → Fin (cx 102) (todoOf Go.Proofs.Try.f4 14) ρ w (herdsmanlaw7_RingRound.R Q) := by
  intro f r w h ρ e5 e6
  refine Fin.cut (ρ' := put (put (ρ) (some 5) (.int .i64 f)) (some 6) (.pointer r)) ?_ (by rw [put_id e5, put_id e6])
  refine evT_sound (ok 102) (drawD_sound (ok 102) herdsmanlaw7_RingRound.scr) 600 (L := []) (leaf_of (fn := Go.Proofs.Try.f4) [] (by kernel_rfl) trivial) (castK h (by kernel_rfl))
set_option maxRecDepth 100000 in
theorem herdsmanlaw7_RingRound.f7 (Q : Bool → World → Prop) : ∀ k l_a l_n l_c f r at0 i w, herdsmanlaw7_RingRound.b7 Q k l_a l_n l_c f r at0 i w → ∀ ρ : Env, ρ 1 = .slice l_a l_n l_c → ρ 5 = .int .i64 f → ρ 6 = .pointer r → ρ 7 = .int .i64 at0 → ρ 8 = .int .i64 i → Fin (cx 102) (todoOf Go.Proofs.Try.f4 7) ρ w (herdsmanlaw7_RingRound.R Q) := by
  intro k
  induction k with
  | zero => intro l_a l_n l_c f r at0 i w h; exact h.elim
  | succ k ih =>
    intro l_a l_n l_c f r at0 i w h ρ e1 e5 e6 e7 e8
    have h : herdsmanlaw7_RingRound.s7 Q (herdsmanlaw7_RingRound.b7 Q k) l_a l_n l_c f r at0 i w := h
    refine Fin.cut (ρ' := put (put (put (put (put (ρ) (some 1) (.slice l_a l_n l_c)) (some 5) (.int .i64 f)) (some 6) (.pointer r)) (some 7) (.int .i64 at0)) (some 8) (.int .i64 i)) ?_ (by rw [put_id e1, put_id e5, put_id e6, put_id e7, put_id e8])
    refine evT_sound (ok 102) (drawD_sound (ok 102) herdsmanlaw7_RingRound.scr) 600 (L := [(7, fun ρ w => herdsmanlaw7_RingRound.d7 (fun l_a l_n l_c f r at0 i => herdsmanlaw7_RingRound.b7 Q k l_a l_n l_c f r at0 i w) ρ), (14, fun ρ w => herdsmanlaw7_RingRound.d14 (fun f r => herdsmanlaw7_RingRound.b14 Q f r w) ρ)]) (leaf_of (fn := Go.Proofs.Try.f4) [7, 14] (by kernel_rfl) ⟨fun ρ w h => by obtain ⟨l_a, l_n, l_c, f, r, at0, i, e1, e5, e6, e7, e8, h⟩ := herdsmanlaw7_RingRound.d7_elim (ρ := ρ) h; exact ih l_a l_n l_c f r at0 i w h ρ e1 e5 e6 e7 e8, fun ρ w h => by obtain ⟨f, r, e5, e6, h⟩ := herdsmanlaw7_RingRound.d14_elim (ρ := ρ) h; exact herdsmanlaw7_RingRound.f14 Q f r w h ρ e5 e6, trivial⟩) (castK h (by kernel_rfl))
set_option maxRecDepth 100000 in
theorem herdsmanlaw7_RingRound.body (from0 : Int) (l_a : Option Addr) (l_n : Nat) (l_c : Nat) (w : World) (Q : Bool → World → Prop) (h : herdsmanlaw7_RingRound.sh from0 l_a l_n l_c w Q) : herdsmanlaw7_RingRound.call from0 l_a l_n l_c w Q := by
  refine call_fn (ok 102) (fn := Go.Proofs.Try.f4) (args := [.int .i64 from0, .slice l_a l_n l_c]) (K := herdsmanlaw7_RingRound.qv Q) Go.Proofs.Try.func4 (by kernel_rfl) (by kernel_rfl) (by kernel_rfl) ?_
  refine evT_sound (ok 102) (drawD_sound (ok 102) herdsmanlaw7_RingRound.scr) 600 (L := [(7, fun ρ w => herdsmanlaw7_RingRound.d7 (fun l_a l_n l_c f r at0 i => ∃ k', herdsmanlaw7_RingRound.b7 Q k' l_a l_n l_c f r at0 i w) ρ)]) (leaf_of (fn := Go.Proofs.Try.f4) [7] (by kernel_rfl) ⟨fun ρ w h => by obtain ⟨l_a, l_n, l_c, f, r, at0, i, e1, e5, e6, e7, e8, h⟩ := herdsmanlaw7_RingRound.d7_elim (ρ := ρ) h; obtain ⟨k', h⟩ := h; exact herdsmanlaw7_RingRound.f7 Q k' l_a l_n l_c f r at0 i w h ρ e1 e5 e6 e7 e8, trivial⟩) (castK h (by kernel_rfl))
/-! ### 15 (*herdsman/herdsmanref7.Ring).Put -/
def herdsmanref7_Ring_Put.sh (r : Option Addr) (key : Int) (item : Int) (w : World) (Q : Bool → World → Prop) : Prop :=
  wA r fun p9 =>
  LdI .i64 p9 w fun x11 =>
  cond (decide (key < x11))
  (Q false w)
  (wA r fun p16 =>
  LdI .i64 p16 w fun x18 =>
  cond (decide ((IntKind.wrap .i64 (key - x18)) ≥ 256))
  (Q false w)
  (Bx [] 50 w fun p23_s w0_1 =>
  wA r fun p25 =>
  LdS (p25.add 1) w0_1 fun x27_a x27_n x27_c =>
  App P #[35, 35] 35 (.slice (some p23_s) 0 0) (.slice x27_a x27_n x27_c) w0_1 fun r28_a r28_n r28_c w0_2 =>
  Bx [.int .i64 key, .int .i64 item] 50 w0_2 fun p32_s w0_3 =>
  App P #[35, 35] 35 (.slice r28_a r28_n r28_c) (.slice (some p32_s) 1 1) w0_3 fun r33_a r33_n r33_c w0_4 =>
  wA r fun p34 =>
  St (p34.add 1) (.slice r33_a r33_n r33_c) w0_4 fun w0_5 =>
  Q true w0_5))
noncomputable def herdsmanref7_Ring_Put.scr : Scrs := []
def herdsmanref7_Ring_Put.R (Q : Bool → World → Prop) (ρ : Env) (w : World) : Prop := evRes (cx 36) Go.Proofs.Try.f15.results.toList ρ w fun vs => herdsmanref7_Ring_Put.qv Q (resV vs) w
set_option maxRecDepth 100000 in
theorem herdsmanref7_Ring_Put.body (r : Option Addr) (key : Int) (item : Int) (w : World) (Q : Bool → World → Prop) (h : herdsmanref7_Ring_Put.sh r key item w Q) : herdsmanref7_Ring_Put.call r key item w Q := by
  refine call_fn (ok 36) (fn := Go.Proofs.Try.f15) (args := [.pointer r, .int .i64 key, .int .i64 item]) (K := herdsmanref7_Ring_Put.qv Q) Go.Proofs.Try.func15 (by kernel_rfl) (by kernel_rfl) (by kernel_rfl) ?_
  refine evT_sound (ok 36) (drawD_sound (ok 36) herdsmanref7_Ring_Put.scr) 600 (L := []) (leaf_of (fn := Go.Proofs.Try.f15) [] (by kernel_rfl) trivial) (castK h (by kernel_rfl))
/-! ### 16 (*herdsman/herdsmanref7.Ring).Pop -/
def herdsmanref7_Ring_Pop.s5 (Q : Int → Int → Bool → World → Prop) (R5 : Option Addr → Int → Int → World → Prop) (r : Option Addr) (at0 : Int) (i : Int) (w : World) : Prop :=
  wA r fun p16 =>
  LdS (p16.add 1) w fun x18_a x18_n x18_c =>
  cond (decide (i < (x18_n : Int)))
  (wA r fun p24 =>
  LdS (p24.add 1) w.drew fun x26_a x26_n x26_c =>
  InB i x26_n <|
  wA x26_a fun p =>
  LdI .i64 (p.add (i.toNat * 2)) w.drew fun x30 =>
  wA r fun p32 =>
  LdS (p32.add 1) w.drew fun x34_a x34_n x34_c =>
  InB at0 x34_n <|
  wA x34_a fun p_1 =>
  LdI .i64 (p_1.add (at0.toNat * 2)) w.drew fun x38 =>
  cond (decide (x30 < x38))
  (R5 r i (IntKind.wrap .i64 (i + 1)) w.drew)
  (R5 r at0 (IntKind.wrap .i64 (i + 1)) w.drew))
  (wA r fun p42 =>
  LdS (p42.add 1) w fun x44_a x44_n x44_c =>
  InB at0 x44_n <|
  wA x44_a fun p_2 =>
  LdI .i64 ((p_2.add (at0.toNat * 2)).add 0) w fun x47_Key =>
  LdI .i64 ((p_2.add (at0.toNat * 2)).add 1) w fun x47_Item =>
  Al T 50 w fun x w0_1 =>
  St (x.add 0) (.int .i64 x47_Key) w0_1 fun w0_2 =>
  St (x.add 1) (.int .i64 x47_Item) w0_2 fun w0_3 =>
  wA r fun p51 =>
  LdS (p51.add 1) w0_3.drew fun x53_a x53_n x53_c =>
  SlK x53_a x53_n x53_c 2 none (some at0) fun s55_a s55_n s55_c =>
  wA r fun p58 =>
  LdS (p58.add 1) w0_3.drew fun x60_a x60_n x60_c =>
  SlK x60_a x60_n x60_c 2 (some (IntKind.wrap .i64 (at0 + 1))) none fun s63_a s63_n s63_c =>
  Bx [] 50 w0_3.drew fun p49_s w0_4 =>
  w0_4.cell? (p58.add 1) = some (.slice x60_a x60_n x60_c) ∧
  w0_4.cell? (p51.add 1) = some (.slice x53_a x53_n x53_c) ∧
  App P #[35, 35] 35 (.slice (some p49_s) 0 0) (.slice s55_a s55_n s55_c) w0_4 fun r56_a r56_n r56_c w0_5 =>
  w0_5.cell? (p58.add 1) = some (.slice x60_a x60_n x60_c) ∧
  App P #[35, 35] 35 (.slice r56_a r56_n r56_c) (.slice s63_a s63_n s63_c) w0_5 fun r64_a r64_n r64_c w0_6 =>
  wA r fun p65 =>
  St (p65.add 1) (.slice r64_a r64_n r64_c) w0_6 fun w0_7 =>
  LdI .i64 x w0_7 fun x69 =>
  wA r fun p70 =>
  St p70 (.int .i64 x69) w0_7 fun w0_8 =>
  LdI .i64 x w0_8.drew fun x73 =>
  LdI .i64 (x.add 1) w0_8.drew fun x75 =>
  w0_8.drew.cell? (x.add 1) = some (.int .i64 x75) ∧
  Q x73 x75 true w0_8.drew)
def herdsmanref7_Ring_Pop.b5 (Q : Int → Int → Bool → World → Prop) : Nat → Option Addr → Int → Int → World → Prop
  | 0, _, _, _, _ => False
  | k + 1, r, at0, i, w => herdsmanref7_Ring_Pop.s5 Q (herdsmanref7_Ring_Pop.b5 Q k) r at0 i w
def herdsmanref7_Ring_Pop.sh (r : Option Addr) (w : World) (Q : Int → Int → Bool → World → Prop) : Prop :=
  wA r fun p9 =>
  LdS (p9.add 1) w fun x11_a x11_n x11_c =>
  cond ((x11_n : Int) == 0)
  (Q 0 0 false w)
  (∃ k', herdsmanref7_Ring_Pop.b5 Q k' r 0 0 w)
noncomputable def herdsmanref7_Ring_Pop.scr : Scrs := [(7, .op 0 (.op 1 (.op 2 (.op 3 (.op 4 (.op 5 (.op 6 (.op 7 (.op 8 (.op 9 (.op 10 (.op 11 (.op 12 (.op 13 (.op 14 (.op 15 (.op 16 .done))))))))))))))))), (10, .op 0 (.op 2 (.op 3 (.op 4 (.op 5 (.op 6 (.op 7 (.op 9 (.op 10 (.op 11 (.op 12 (.op 13 (.op 14 (.op 15 (.op 1 (.op 8 (.op 16 (.op 17 (.op 18 (.op 19 .done)))))))))))))))))))), (12, .op 0 (.op 1 (.op 2 (.op 3 (.op 4 (.op 5 (.op 6 .done)))))))]
def herdsmanref7_Ring_Pop.R (Q : Int → Int → Bool → World → Prop) (ρ : Env) (w : World) : Prop := evRes (cx 76) Go.Proofs.Try.f16.results.toList ρ w fun vs => herdsmanref7_Ring_Pop.qv Q (resV vs) w
def herdsmanref7_Ring_Pop.d5 (K : Option Addr → Int → Int → Prop) (ρ : Env) : Prop :=
  dP (ρ 0) fun r => dI .i64 (ρ 5) fun at0 => dI .i64 (ρ 6) fun i => K r at0 i
theorem herdsmanref7_Ring_Pop.d5_elim {K : Option Addr → Int → Int → Prop} {ρ : Env} (h0 : herdsmanref7_Ring_Pop.d5 K ρ) : ∃ (r : Option Addr) (at0 : Int) (i : Int), ρ 0 = .pointer r ∧ ρ 5 = .int .i64 at0 ∧ ρ 6 = .int .i64 i ∧ K r at0 i := by
  obtain ⟨r, e0, h1⟩ := dP_elim h0
  obtain ⟨at0, e5, h2⟩ := dI_elim h1
  obtain ⟨i, e6, h3⟩ := dI_elim h2
  exact ⟨r, at0, i, e0, e5, e6, h3⟩
set_option maxRecDepth 100000 in
theorem herdsmanref7_Ring_Pop.f5 (Q : Int → Int → Bool → World → Prop) : ∀ k r at0 i w, herdsmanref7_Ring_Pop.b5 Q k r at0 i w → ∀ ρ : Env, ρ 0 = .pointer r → ρ 5 = .int .i64 at0 → ρ 6 = .int .i64 i → Fin (cx 76) (todoOf Go.Proofs.Try.f16 5) ρ w (herdsmanref7_Ring_Pop.R Q) := by
  intro k
  induction k with
  | zero => intro r at0 i w h; exact h.elim
  | succ k ih =>
    intro r at0 i w h ρ e0 e5 e6
    have h : herdsmanref7_Ring_Pop.s5 Q (herdsmanref7_Ring_Pop.b5 Q k) r at0 i w := h
    refine Fin.cut (ρ' := put (put (put (ρ) (some 0) (.pointer r)) (some 5) (.int .i64 at0)) (some 6) (.int .i64 i)) ?_ (by rw [put_id e0, put_id e5, put_id e6])
    refine evT_sound (ok 76) (drawD_sound (ok 76) herdsmanref7_Ring_Pop.scr) 600 (L := [(5, fun ρ w => herdsmanref7_Ring_Pop.d5 (fun r at0 i => herdsmanref7_Ring_Pop.b5 Q k r at0 i w) ρ)]) (leaf_of (fn := Go.Proofs.Try.f16) [5, 5] (by kernel_rfl) ⟨fun ρ w h => by obtain ⟨r, at0, i, e0, e5, e6, h⟩ := herdsmanref7_Ring_Pop.d5_elim (ρ := ρ) h; exact ih r at0 i w h ρ e0 e5 e6, trivial⟩) (castK h (by kernel_rfl))
set_option maxRecDepth 100000 in
theorem herdsmanref7_Ring_Pop.body (r : Option Addr) (w : World) (Q : Int → Int → Bool → World → Prop) (h : herdsmanref7_Ring_Pop.sh r w Q) : herdsmanref7_Ring_Pop.call r w Q := by
  refine call_fn (ok 76) (fn := Go.Proofs.Try.f16) (args := [.pointer r]) (K := herdsmanref7_Ring_Pop.qv Q) Go.Proofs.Try.func16 (by kernel_rfl) (by kernel_rfl) (by kernel_rfl) ?_
  refine evT_sound (ok 76) (drawD_sound (ok 76) herdsmanref7_Ring_Pop.scr) 600 (L := [(5, fun ρ w => herdsmanref7_Ring_Pop.d5 (fun r at0 i => ∃ k', herdsmanref7_Ring_Pop.b5 Q k' r at0 i w) ρ)]) (leaf_of (fn := Go.Proofs.Try.f16) [5] (by kernel_rfl) ⟨fun ρ w h => by obtain ⟨r, at0, i, e0, e5, e6, h⟩ := herdsmanref7_Ring_Pop.d5_elim (ρ := ρ) h; obtain ⟨k', h⟩ := h; exact herdsmanref7_Ring_Pop.f5 Q k' r at0 i w h ρ e0 e5 e6, trivial⟩) (castK h (by kernel_rfl))
/-! ### 17 (*herdsman/ring.Ring).Jump -/
def ring_Ring_Jump.sh (r : Option Addr) (key : Int) (w : World) (Q : Bool → World → Prop) : Prop :=
  cond r.isNone
  (Q false w)
  (wA r fun p9 =>
  LdI .i64 (p9.add 1) w fun x11 =>
  cond (decide (x11 > 0))
  (Q false w)
  (wA r fun p17 =>
  LdI .i64 p17 w fun x19 =>
  cond (decide (key < x19))
  (Q false w)
  (cond (decide (key > 1099511627776))
  (Q false w)
  (wA r fun p28 =>
  St p28 (.int .i64 key) w fun w0_1 =>
  Q true w0_1))))
noncomputable def ring_Ring_Jump.scr : Scrs := []
def ring_Ring_Jump.R (Q : Bool → World → Prop) (ρ : Env) (w : World) : Prop := evRes (cx 30) Go.Proofs.Try.f17.results.toList ρ w fun vs => ring_Ring_Jump.qv Q (resV vs) w
set_option maxRecDepth 100000 in
theorem ring_Ring_Jump.body (r : Option Addr) (key : Int) (w : World) (Q : Bool → World → Prop) (h : ring_Ring_Jump.sh r key w Q) : ring_Ring_Jump.call r key w Q := by
  refine call_fn (ok 30) (fn := Go.Proofs.Try.f17) (args := [.pointer r, .int .i64 key]) (K := ring_Ring_Jump.qv Q) Go.Proofs.Try.func17 (by kernel_rfl) (by kernel_rfl) (by kernel_rfl) ?_
  refine evT_sound (ok 30) (drawD_sound (ok 30) ring_Ring_Jump.scr) 600 (L := []) (leaf_of (fn := Go.Proofs.Try.f17) [] (by kernel_rfl) trivial) (castK h (by kernel_rfl))
/-! ### 18 (*herdsman/herdsmanref7.Ring).Jump -/
def herdsmanref7_Ring_Jump.sh (r : Option Addr) (key : Int) (w : World) (Q : Bool → World → Prop) : Prop :=
  wA r fun p6 =>
  LdS (p6.add 1) w fun x8_a x8_n x8_c =>
  cond (decide ((x8_n : Int) > 0))
  (Q false w)
  (wA r fun p14 =>
  LdI .i64 p14 w fun x16 =>
  cond (decide (key < x16))
  (Q false w)
  (cond (decide (key > 1099511627776))
  (Q false w)
  (wA r fun p25 =>
  St p25 (.int .i64 key) w fun w0_1 =>
  Q true w0_1)))
noncomputable def herdsmanref7_Ring_Jump.scr : Scrs := []
def herdsmanref7_Ring_Jump.R (Q : Bool → World → Prop) (ρ : Env) (w : World) : Prop := evRes (cx 27) Go.Proofs.Try.f18.results.toList ρ w fun vs => herdsmanref7_Ring_Jump.qv Q (resV vs) w
set_option maxRecDepth 100000 in
theorem herdsmanref7_Ring_Jump.body (r : Option Addr) (key : Int) (w : World) (Q : Bool → World → Prop) (h : herdsmanref7_Ring_Jump.sh r key w Q) : herdsmanref7_Ring_Jump.call r key w Q := by
  refine call_fn (ok 27) (fn := Go.Proofs.Try.f18) (args := [.pointer r, .int .i64 key]) (K := herdsmanref7_Ring_Jump.qv Q) Go.Proofs.Try.func18 (by kernel_rfl) (by kernel_rfl) (by kernel_rfl) ?_
  refine evT_sound (ok 27) (drawD_sound (ok 27) herdsmanref7_Ring_Jump.scr) 600 (L := []) (leaf_of (fn := Go.Proofs.Try.f18) [] (by kernel_rfl) trivial) (castK h (by kernel_rfl))
/-! ### 5 herdsman/herdsmanlaw7.RingPlays -/
def herdsmanlaw7_RingPlays.b5 (Q : Bool → World → Prop) (r : Option Addr) (w : World) : Prop :=
  herdsmanlaw7_told.call w fun r29 w0_1 =>
  cond r29
  (Q r.isNone w0_1)
  (Q false w0_1)
def herdsmanlaw7_RingPlays.b27 (P10 : Option Addr → Nat → Nat → Bool → Option Addr → Addr → Int → World → Prop) (Q : Bool → World → Prop) (l_a : Option Addr) (l_n : Nat) (l_c : Nat) (raw : Bool) (r : Option Addr) (w0_1 : Addr) (i : Int) (w : World) : Prop :=
  LdI .i64 w0_1 w.drew fun x124 =>
  ring_Ring_At.call r w.drew fun r120 w0_2 =>
  w0_2.cell? w0_1 = some (.int .i64 x124) ∧
  cond (r120 != x124)
  (Q false w0_2)
  (LdS (w0_1.add 1) w0_2 fun x132_a x132_n x132_c =>
  ring_Ring_Len.call r w0_2 fun r128 w0_3 =>
  w0_3.cell? (w0_1.add 1) = some (.slice x132_a x132_n x132_c) ∧
  cond (r128 != (x132_n : Int))
  (Q false w0_3)
  (P10 l_a l_n l_c raw r w0_1 (IntKind.wrap .i64 (i + 1)) w0_3))
def herdsmanlaw7_RingPlays.b20 (P10 : Option Addr → Nat → Nat → Bool → Option Addr → Addr → Int → World → Prop) (Q : Bool → World → Prop) (l_a : Option Addr) (l_n : Nat) (l_c : Nat) (raw : Bool) (r : Option Addr) (w0_1 : Addr) (i : Int) (x : Addr) (w : World) : Prop :=
  LdI .i64 (x.add 1) w.drew fun x81 =>
  LdI .i64 (x.add 2) w.drew fun x83 =>
  LdI .i64 (x.add 1) w.drew fun x87 =>
  LdI .i64 (x.add 2) w.drew fun x89 =>
  ring_Ring_Put.call r x81 x83 w.drew fun r84 w0_2 =>
  w0_2.cell? (x.add 2) = some (.int .i64 x89) ∧
  w0_2.cell? (x.add 1) = some (.int .i64 x87) ∧
  herdsmanref7_Ring_Put.call (some w0_1) x87 x89 w0_2 fun r90 w0_3 =>
  cond (!(r84 == r90))
  (Q false w0_3)
  (herdsmanlaw7_RingPlays.b27 P10 Q l_a l_n l_c raw r w0_1 i w0_3)
def herdsmanlaw7_RingPlays.b15 (P10 : Option Addr → Nat → Nat → Bool → Option Addr → Addr → Int → World → Prop) (Q : Bool → World → Prop) (l_a : Option Addr) (l_n : Nat) (l_c : Nat) (raw : Bool) (r : Option Addr) (w0_1 : Addr) (i : Int) (x : Addr) (w : World) : Prop :=
  LdI .i64 x w fun x65 =>
  herdsmanref1_Within.call x65 0 3 w fun r66 w0_2 =>
  cond (r66 == 0)
  (herdsmanlaw7_RingPlays.b20 P10 Q l_a l_n l_c raw r w0_1 i x w0_2)
  (cond (r66 == 1)
  (herdsmanlaw7_RingPlays.b20 P10 Q l_a l_n l_c raw r w0_1 i x w0_2)
  (cond (r66 == 2)
  (ring_Ring_Pop.call r w0_2 fun r96_key r96_item r96_ok w0_3 =>
  herdsmanref7_Ring_Pop.call (some w0_1) w0_3 fun r102_0 r102_1 r102_2 w0_4 =>
  cond (r96_key != r102_0)
  (Q false w0_4)
  (cond (r96_item != r102_1)
  (Q false w0_4)
  (cond (!(r96_ok == r102_2))
  (Q false w0_4)
  (herdsmanlaw7_RingPlays.b27 P10 Q l_a l_n l_c raw r w0_1 i w0_4))))
  (LdI .i64 (x.add 1) w0_2.drew fun x69 =>
  LdI .i64 (x.add 1) w0_2.drew fun x73 =>
  ring_Ring_Jump.call r x69 w0_2.drew fun r70 w0_5 =>
  w0_5.cell? (x.add 1) = some (.int .i64 x73) ∧
  herdsmanref7_Ring_Jump.call (some w0_1) x73 w0_5 fun r74 w0_6 =>
  cond (!(r70 == r74))
  (Q false w0_6)
  (herdsmanlaw7_RingPlays.b27 P10 Q l_a l_n l_c raw r w0_1 i w0_6))))
def herdsmanlaw7_RingPlays.s10 (Q : Bool → World → Prop) (R10 : Option Addr → Nat → Nat → Bool → Option Addr → Addr → Int → World → Prop) (l_a : Option Addr) (l_n : Nat) (l_c : Nat) (raw : Bool) (r : Option Addr) (w0_1 : Addr) (i : Int) (w : World) : Prop :=
  cond (decide (i < (l_n : Int)))
  (cond (decide (i < 60))
  (InB i l_n <|
  wA l_a fun p =>
  LdI .i64 ((p.add (i.toNat * 3)).add 0) w fun x52_Kind =>
  LdI .i64 ((p.add (i.toNat * 3)).add 1) w fun x52_Key =>
  LdI .i64 ((p.add (i.toNat * 3)).add 2) w fun x52_Item =>
  Al T 39 w fun x w0_2 =>
  St (x.add 0) (.int .i64 x52_Kind) w0_2 fun w0_3 =>
  St (x.add 1) (.int .i64 x52_Key) w0_3 fun w0_4 =>
  St (x.add 2) (.int .i64 x52_Item) w0_4 fun w0_5 =>
  cond (!raw)
  (LdI .i64 w0_1 w0_5.drew fun x58 =>
  LdI .i64 (x.add 1) w0_5.drew fun x60 =>
  herdsmanref1_Within.call x60 (-3) 259 w0_5.drew fun r61 w0_6 =>
  w0_6.cell? w0_1 = some (.int .i64 x58) ∧
  St (x.add 1) (.int .i64 (IntKind.wrap .i64 (x58 + r61))) w0_6 fun w0_7 =>
  herdsmanlaw7_RingPlays.b15 R10 Q l_a l_n l_c raw r w0_1 i x w0_7)
  (herdsmanlaw7_RingPlays.b15 R10 Q l_a l_n l_c raw r w0_1 i x w0_5))
  (herdsmanlaw7_told.call w fun r136 w0_8 =>
  Q r136 w0_8))
  (herdsmanlaw7_told.call w fun r136_1 w0_9 =>
  Q r136_1 w0_9)
def herdsmanlaw7_RingPlays.b10 (Q : Bool → World → Prop) : Nat → Option Addr → Nat → Nat → Bool → Option Addr → Addr → Int → World → Prop
  | 0, _, _, _, _, _, _, _, _ => False
  | k + 1, l_a, l_n, l_c, raw, r, w0_1, i, w => herdsmanlaw7_RingPlays.s10 Q (herdsmanlaw7_RingPlays.b10 Q k) l_a l_n l_c raw r w0_1 i w
def herdsmanlaw7_RingPlays.b3 (Q : Bool → World → Prop) (from0 : Int) (l_a : Option Addr) (l_n : Nat) (l_c : Nat) (raw : Bool) (w : World) : Prop :=
  ring_New.call from0 w fun r22 w0_1 =>
  cond (decide (from0 < 0))
  (herdsmanlaw7_RingPlays.b5 Q r22 w0_1)
  (cond (decide (from0 > 1099511627776))
  (herdsmanlaw7_RingPlays.b5 Q r22 w0_1)
  (cond r22.isNone
  (Q false w0_1)
  (Bx [.int .i64 from0, .slice none 0 0] 37 w0_1 fun p38_b w0_2 =>
  ∃ k', herdsmanlaw7_RingPlays.b10 Q k' l_a l_n l_c raw r22 p38_b 0 w0_2)))
def herdsmanlaw7_RingPlays.sh (from0 : Int) (l_a : Option Addr) (l_n : Nat) (l_c : Nat) (raw : Bool) (w : World) (Q : Bool → World → Prop) : Prop :=
  cond (!raw)
  (herdsmanref1_Within.call from0 0 5000 w fun r20 w0_1 =>
  herdsmanlaw7_RingPlays.b3 Q r20 l_a l_n l_c raw w0_1)
  (herdsmanlaw7_RingPlays.b3 Q from0 l_a l_n l_c raw w)
noncomputable def herdsmanlaw7_RingPlays.scr : Scrs := [(14, .op 0 (.op 1 (.op 2 (.op 3 (.op 4 (.op 5 (.op 6 (.op 7 (.op 8 (.op 9 .done)))))))))), (16, .op 0 (.op 1 (.op 2 (.op 4 (.op 5 (.op 6 (.op 3 (.op 7 (.op 8 .done))))))))), (20, .op 0 (.op 1 (.op 2 (.op 3 (.op 4 (.op 6 (.op 7 (.op 8 (.op 9 (.op 10 (.op 5 (.op 11 (.op 12 .done))))))))))))), (27, .op 0 (.op 2 (.op 3 (.op 4 (.op 5 (.op 1 (.op 6 (.op 7 (.op 8 (.op 10 (.op 11 (.op 12 (.op 13 (.op 14 (.op 9 (.op 15 (.op 16 .done)))))))))))))))))]
def herdsmanlaw7_RingPlays.R (Q : Bool → World → Prop) (ρ : Env) (w : World) : Prop := evRes (cx 137) Go.Proofs.Try.f5.results.toList ρ w fun vs => herdsmanlaw7_RingPlays.qv Q (resV vs) w
def herdsmanlaw7_RingPlays.d3 (K : Int → Option Addr → Nat → Nat → Bool → Prop) (ρ : Env) : Prop :=
  dI .i64 (ρ 0) fun from0 => dS (ρ 1) fun l_a l_n l_c => dB (ρ 2) fun raw => K from0 l_a l_n l_c raw
theorem herdsmanlaw7_RingPlays.d3_elim {K : Int → Option Addr → Nat → Nat → Bool → Prop} {ρ : Env} (h0 : herdsmanlaw7_RingPlays.d3 K ρ) : ∃ (from0 : Int) (l_a : Option Addr) (l_n : Nat) (l_c : Nat) (raw : Bool), ρ 0 = .int .i64 from0 ∧ ρ 1 = .slice l_a l_n l_c ∧ ρ 2 = .bool raw ∧ K from0 l_a l_n l_c raw := by
  obtain ⟨from0, e0, h1⟩ := dI_elim h0
  obtain ⟨l_a, l_n, l_c, e1, h2⟩ := dS_elim h1
  obtain ⟨raw, e2, h3⟩ := dB_elim h2
  exact ⟨from0, l_a, l_n, l_c, raw, e0, e1, e2, h3⟩
def herdsmanlaw7_RingPlays.d5 (K : Option Addr → Prop) (ρ : Env) : Prop :=
  dP (ρ 7) fun r => K r
theorem herdsmanlaw7_RingPlays.d5_elim {K : Option Addr → Prop} {ρ : Env} (h0 : herdsmanlaw7_RingPlays.d5 K ρ) : ∃ (r : Option Addr), ρ 7 = .pointer r ∧ K r := by
  obtain ⟨r, e7, h1⟩ := dP_elim h0
  exact ⟨r, e7, h1⟩
def herdsmanlaw7_RingPlays.d10 (K : Option Addr → Nat → Nat → Bool → Option Addr → Addr → Int → Prop) (ρ : Env) : Prop :=
  dS (ρ 1) fun l_a l_n l_c => dB (ρ 2) fun raw => dP (ρ 7) fun r => dP (ρ 8) fun w_p => wA w_p fun w0 => dI .i64 (ρ 9) fun i => K l_a l_n l_c raw r w0 i
theorem herdsmanlaw7_RingPlays.d10_elim {K : Option Addr → Nat → Nat → Bool → Option Addr → Addr → Int → Prop} {ρ : Env} (h0 : herdsmanlaw7_RingPlays.d10 K ρ) : ∃ (l_a : Option Addr) (l_n : Nat) (l_c : Nat) (raw : Bool) (r : Option Addr) (w0_1 : Addr) (i : Int), ρ 1 = .slice l_a l_n l_c ∧ ρ 2 = .bool raw ∧ ρ 7 = .pointer r ∧ ρ 8 = .pointer (some w0_1) ∧ ρ 9 = .int .i64 i ∧ K l_a l_n l_c raw r w0_1 i := by
  obtain ⟨l_a, l_n, l_c, e1, h1⟩ := dS_elim h0
  obtain ⟨raw, e2, h2⟩ := dB_elim h1
  obtain ⟨r, e7, h3⟩ := dP_elim h2
  obtain ⟨w_p, e8, h4⟩ := dP_elim h3
  obtain ⟨w0, rfl, h5⟩ := wA_elim h4
  obtain ⟨i, e9, h6⟩ := dI_elim h5
  exact ⟨l_a, l_n, l_c, raw, r, w0, i, e1, e2, e7, e8, e9, h6⟩
def herdsmanlaw7_RingPlays.d15 (K : Option Addr → Nat → Nat → Bool → Option Addr → Addr → Int → Addr → Prop) (ρ : Env) : Prop :=
  dS (ρ 1) fun l_a l_n l_c => dB (ρ 2) fun raw => dP (ρ 7) fun r => dP (ρ 8) fun w_p => wA w_p fun w0 => dI .i64 (ρ 9) fun i => dP (ρ 10) fun x_p => wA x_p fun x => K l_a l_n l_c raw r w0 i x
theorem herdsmanlaw7_RingPlays.d15_elim {K : Option Addr → Nat → Nat → Bool → Option Addr → Addr → Int → Addr → Prop} {ρ : Env} (h0 : herdsmanlaw7_RingPlays.d15 K ρ) : ∃ (l_a : Option Addr) (l_n : Nat) (l_c : Nat) (raw : Bool) (r : Option Addr) (w0_1 : Addr) (i : Int) (x : Addr), ρ 1 = .slice l_a l_n l_c ∧ ρ 2 = .bool raw ∧ ρ 7 = .pointer r ∧ ρ 8 = .pointer (some w0_1) ∧ ρ 9 = .int .i64 i ∧ ρ 10 = .pointer (some x) ∧ K l_a l_n l_c raw r w0_1 i x := by
  obtain ⟨l_a, l_n, l_c, e1, h1⟩ := dS_elim h0
  obtain ⟨raw, e2, h2⟩ := dB_elim h1
  obtain ⟨r, e7, h3⟩ := dP_elim h2
  obtain ⟨w_p, e8, h4⟩ := dP_elim h3
  obtain ⟨w0, rfl, h5⟩ := wA_elim h4
  obtain ⟨i, e9, h6⟩ := dI_elim h5
  obtain ⟨x_p, e10, h7⟩ := dP_elim h6
  obtain ⟨x, rfl, h8⟩ := wA_elim h7
  exact ⟨l_a, l_n, l_c, raw, r, w0, i, x, e1, e2, e7, e8, e9, e10, h8⟩
def herdsmanlaw7_RingPlays.d20 (K : Option Addr → Nat → Nat → Bool → Option Addr → Addr → Int → Addr → Prop) (ρ : Env) : Prop :=
  dS (ρ 1) fun l_a l_n l_c => dB (ρ 2) fun raw => dP (ρ 7) fun r => dP (ρ 8) fun w_p => wA w_p fun w0 => dI .i64 (ρ 9) fun i => dP (ρ 10) fun x_p => wA x_p fun x => K l_a l_n l_c raw r w0 i x
theorem herdsmanlaw7_RingPlays.d20_elim {K : Option Addr → Nat → Nat → Bool → Option Addr → Addr → Int → Addr → Prop} {ρ : Env} (h0 : herdsmanlaw7_RingPlays.d20 K ρ) : ∃ (l_a : Option Addr) (l_n : Nat) (l_c : Nat) (raw : Bool) (r : Option Addr) (w0_1 : Addr) (i : Int) (x : Addr), ρ 1 = .slice l_a l_n l_c ∧ ρ 2 = .bool raw ∧ ρ 7 = .pointer r ∧ ρ 8 = .pointer (some w0_1) ∧ ρ 9 = .int .i64 i ∧ ρ 10 = .pointer (some x) ∧ K l_a l_n l_c raw r w0_1 i x := by
  obtain ⟨l_a, l_n, l_c, e1, h1⟩ := dS_elim h0
  obtain ⟨raw, e2, h2⟩ := dB_elim h1
  obtain ⟨r, e7, h3⟩ := dP_elim h2
  obtain ⟨w_p, e8, h4⟩ := dP_elim h3
  obtain ⟨w0, rfl, h5⟩ := wA_elim h4
  obtain ⟨i, e9, h6⟩ := dI_elim h5
  obtain ⟨x_p, e10, h7⟩ := dP_elim h6
  obtain ⟨x, rfl, h8⟩ := wA_elim h7
  exact ⟨l_a, l_n, l_c, raw, r, w0, i, x, e1, e2, e7, e8, e9, e10, h8⟩
def herdsmanlaw7_RingPlays.d27 (K : Option Addr → Nat → Nat → Bool → Option Addr → Addr → Int → Prop) (ρ : Env) : Prop :=
  dS (ρ 1) fun l_a l_n l_c => dB (ρ 2) fun raw => dP (ρ 7) fun r => dP (ρ 8) fun w_p => wA w_p fun w0 => dI .i64 (ρ 9) fun i => K l_a l_n l_c raw r w0 i
theorem herdsmanlaw7_RingPlays.d27_elim {K : Option Addr → Nat → Nat → Bool → Option Addr → Addr → Int → Prop} {ρ : Env} (h0 : herdsmanlaw7_RingPlays.d27 K ρ) : ∃ (l_a : Option Addr) (l_n : Nat) (l_c : Nat) (raw : Bool) (r : Option Addr) (w0_1 : Addr) (i : Int), ρ 1 = .slice l_a l_n l_c ∧ ρ 2 = .bool raw ∧ ρ 7 = .pointer r ∧ ρ 8 = .pointer (some w0_1) ∧ ρ 9 = .int .i64 i ∧ K l_a l_n l_c raw r w0_1 i := by
  obtain ⟨l_a, l_n, l_c, e1, h1⟩ := dS_elim h0
  obtain ⟨raw, e2, h2⟩ := dB_elim h1
  obtain ⟨r, e7, h3⟩ := dP_elim h2
  obtain ⟨w_p, e8, h4⟩ := dP_elim h3
  obtain ⟨w0, rfl, h5⟩ := wA_elim h4
  obtain ⟨i, e9, h6⟩ := dI_elim h5
  exact ⟨l_a, l_n, l_c, raw, r, w0, i, e1, e2, e7, e8, e9, h6⟩
set_option maxRecDepth 100000 in
theorem herdsmanlaw7_RingPlays.f5 (Q : Bool → World → Prop) : ∀ r w, herdsmanlaw7_RingPlays.b5 Q r w → ∀ ρ : Env, ρ 7 = .pointer r → Fin (cx 137) (todoOf Go.Proofs.Try.f5 5) ρ w (herdsmanlaw7_RingPlays.R Q) := by
  intro r w h ρ e7
  refine Fin.cut (ρ' := put (ρ) (some 7) (.pointer r)) ?_ (by rw [put_id e7])
  refine evT_sound (ok 137) (drawD_sound (ok 137) herdsmanlaw7_RingPlays.scr) 600 (L := []) (leaf_of (fn := Go.Proofs.Try.f5) [] (by kernel_rfl) trivial) (castK h (by kernel_rfl))
set_option maxRecDepth 100000 in
theorem herdsmanlaw7_RingPlays.f27 (P10 : Option Addr → Nat → Nat → Bool → Option Addr → Addr → Int → World → Prop) (Q : Bool → World → Prop) (HP10 : ∀ l_a l_n l_c raw r w0_1 i w, P10 l_a l_n l_c raw r w0_1 i w → ∀ ρ : Env, ρ 1 = .slice l_a l_n l_c → ρ 2 = .bool raw → ρ 7 = .pointer r → ρ 8 = .pointer (some w0_1) → ρ 9 = .int .i64 i → Fin (cx 137) (todoOf Go.Proofs.Try.f5 10) ρ w (herdsmanlaw7_RingPlays.R Q)) : ∀ l_a l_n l_c raw r w0_1 i w, herdsmanlaw7_RingPlays.b27 P10 Q l_a l_n l_c raw r w0_1 i w → ∀ ρ : Env, ρ 1 = .slice l_a l_n l_c → ρ 2 = .bool raw → ρ 7 = .pointer r → ρ 8 = .pointer (some w0_1) → ρ 9 = .int .i64 i → Fin (cx 137) (todoOf Go.Proofs.Try.f5 27) ρ w (herdsmanlaw7_RingPlays.R Q) := by
  intro l_a l_n l_c raw r w0_1 i w h ρ e1 e2 e7 e8 e9
  refine Fin.cut (ρ' := put (put (put (put (put (ρ) (some 1) (.slice l_a l_n l_c)) (some 2) (.bool raw)) (some 7) (.pointer r)) (some 8) (.pointer (some w0_1))) (some 9) (.int .i64 i)) ?_ (by rw [put_id e1, put_id e2, put_id e7, put_id e8, put_id e9])
  refine evT_sound (ok 137) (drawD_sound (ok 137) herdsmanlaw7_RingPlays.scr) 600 (L := [(10, fun ρ w => herdsmanlaw7_RingPlays.d10 (fun l_a l_n l_c raw r w0_1 i => P10 l_a l_n l_c raw r w0_1 i w) ρ)]) (leaf_of (fn := Go.Proofs.Try.f5) [10] (by kernel_rfl) ⟨fun ρ w h => by obtain ⟨l_a, l_n, l_c, raw, r, w0_1, i, e1, e2, e7, e8, e9, h⟩ := herdsmanlaw7_RingPlays.d10_elim (ρ := ρ) h; exact HP10 l_a l_n l_c raw r w0_1 i w h ρ e1 e2 e7 e8 e9, trivial⟩) (castK h (by kernel_rfl))
set_option maxRecDepth 100000 in
theorem herdsmanlaw7_RingPlays.f20 (P10 : Option Addr → Nat → Nat → Bool → Option Addr → Addr → Int → World → Prop) (Q : Bool → World → Prop) (HP10 : ∀ l_a l_n l_c raw r w0_1 i w, P10 l_a l_n l_c raw r w0_1 i w → ∀ ρ : Env, ρ 1 = .slice l_a l_n l_c → ρ 2 = .bool raw → ρ 7 = .pointer r → ρ 8 = .pointer (some w0_1) → ρ 9 = .int .i64 i → Fin (cx 137) (todoOf Go.Proofs.Try.f5 10) ρ w (herdsmanlaw7_RingPlays.R Q)) : ∀ l_a l_n l_c raw r w0_1 i x w, herdsmanlaw7_RingPlays.b20 P10 Q l_a l_n l_c raw r w0_1 i x w → ∀ ρ : Env, ρ 1 = .slice l_a l_n l_c → ρ 2 = .bool raw → ρ 7 = .pointer r → ρ 8 = .pointer (some w0_1) → ρ 9 = .int .i64 i → ρ 10 = .pointer (some x) → Fin (cx 137) (todoOf Go.Proofs.Try.f5 20) ρ w (herdsmanlaw7_RingPlays.R Q) := by
  intro l_a l_n l_c raw r w0_1 i x w h ρ e1 e2 e7 e8 e9 e10
  refine Fin.cut (ρ' := put (put (put (put (put (put (ρ) (some 1) (.slice l_a l_n l_c)) (some 2) (.bool raw)) (some 7) (.pointer r)) (some 8) (.pointer (some w0_1))) (some 9) (.int .i64 i)) (some 10) (.pointer (some x))) ?_ (by rw [put_id e1, put_id e2, put_id e7, put_id e8, put_id e9, put_id e10])
  refine evT_sound (ok 137) (drawD_sound (ok 137) herdsmanlaw7_RingPlays.scr) 600 (L := [(27, fun ρ w => herdsmanlaw7_RingPlays.d27 (fun l_a l_n l_c raw r w0_1 i => herdsmanlaw7_RingPlays.b27 P10 Q l_a l_n l_c raw r w0_1 i w) ρ)]) (leaf_of (fn := Go.Proofs.Try.f5) [27] (by kernel_rfl) ⟨fun ρ w h => by obtain ⟨l_a, l_n, l_c, raw, r, w0_1, i, e1, e2, e7, e8, e9, h⟩ := herdsmanlaw7_RingPlays.d27_elim (ρ := ρ) h; exact herdsmanlaw7_RingPlays.f27 P10 Q HP10 l_a l_n l_c raw r w0_1 i w h ρ e1 e2 e7 e8 e9, trivial⟩) (castK h (by kernel_rfl))
set_option maxRecDepth 100000 in
theorem herdsmanlaw7_RingPlays.f15 (P10 : Option Addr → Nat → Nat → Bool → Option Addr → Addr → Int → World → Prop) (Q : Bool → World → Prop) (HP10 : ∀ l_a l_n l_c raw r w0_1 i w, P10 l_a l_n l_c raw r w0_1 i w → ∀ ρ : Env, ρ 1 = .slice l_a l_n l_c → ρ 2 = .bool raw → ρ 7 = .pointer r → ρ 8 = .pointer (some w0_1) → ρ 9 = .int .i64 i → Fin (cx 137) (todoOf Go.Proofs.Try.f5 10) ρ w (herdsmanlaw7_RingPlays.R Q)) : ∀ l_a l_n l_c raw r w0_1 i x w, herdsmanlaw7_RingPlays.b15 P10 Q l_a l_n l_c raw r w0_1 i x w → ∀ ρ : Env, ρ 1 = .slice l_a l_n l_c → ρ 2 = .bool raw → ρ 7 = .pointer r → ρ 8 = .pointer (some w0_1) → ρ 9 = .int .i64 i → ρ 10 = .pointer (some x) → Fin (cx 137) (todoOf Go.Proofs.Try.f5 15) ρ w (herdsmanlaw7_RingPlays.R Q) := by
  intro l_a l_n l_c raw r w0_1 i x w h ρ e1 e2 e7 e8 e9 e10
  refine Fin.cut (ρ' := put (put (put (put (put (put (ρ) (some 1) (.slice l_a l_n l_c)) (some 2) (.bool raw)) (some 7) (.pointer r)) (some 8) (.pointer (some w0_1))) (some 9) (.int .i64 i)) (some 10) (.pointer (some x))) ?_ (by rw [put_id e1, put_id e2, put_id e7, put_id e8, put_id e9, put_id e10])
  refine evT_sound (ok 137) (drawD_sound (ok 137) herdsmanlaw7_RingPlays.scr) 600 (L := [(20, fun ρ w => herdsmanlaw7_RingPlays.d20 (fun l_a l_n l_c raw r w0_1 i x => herdsmanlaw7_RingPlays.b20 P10 Q l_a l_n l_c raw r w0_1 i x w) ρ), (27, fun ρ w => herdsmanlaw7_RingPlays.d27 (fun l_a l_n l_c raw r w0_1 i => herdsmanlaw7_RingPlays.b27 P10 Q l_a l_n l_c raw r w0_1 i w) ρ)]) (leaf_of (fn := Go.Proofs.Try.f5) [20, 27, 27, 20, 27, 27] (by kernel_rfl) ⟨fun ρ w h => by obtain ⟨l_a, l_n, l_c, raw, r, w0_1, i, x, e1, e2, e7, e8, e9, e10, h⟩ := herdsmanlaw7_RingPlays.d20_elim (ρ := ρ) h; exact herdsmanlaw7_RingPlays.f20 P10 Q HP10 l_a l_n l_c raw r w0_1 i x w h ρ e1 e2 e7 e8 e9 e10, fun ρ w h => by obtain ⟨l_a, l_n, l_c, raw, r, w0_1, i, e1, e2, e7, e8, e9, h⟩ := herdsmanlaw7_RingPlays.d27_elim (ρ := ρ) h; exact herdsmanlaw7_RingPlays.f27 P10 Q HP10 l_a l_n l_c raw r w0_1 i w h ρ e1 e2 e7 e8 e9, trivial⟩) (castK h (by kernel_rfl))
set_option maxRecDepth 100000 in
theorem herdsmanlaw7_RingPlays.f10 (Q : Bool → World → Prop) : ∀ k l_a l_n l_c raw r w0_1 i w, herdsmanlaw7_RingPlays.b10 Q k l_a l_n l_c raw r w0_1 i w → ∀ ρ : Env, ρ 1 = .slice l_a l_n l_c → ρ 2 = .bool raw → ρ 7 = .pointer r → ρ 8 = .pointer (some w0_1) → ρ 9 = .int .i64 i → Fin (cx 137) (todoOf Go.Proofs.Try.f5 10) ρ w (herdsmanlaw7_RingPlays.R Q) := by
  intro k
  induction k with
  | zero => intro l_a l_n l_c raw r w0_1 i w h; exact h.elim
  | succ k ih =>
    intro l_a l_n l_c raw r w0_1 i w h ρ e1 e2 e7 e8 e9
    have h : herdsmanlaw7_RingPlays.s10 Q (herdsmanlaw7_RingPlays.b10 Q k) l_a l_n l_c raw r w0_1 i w := h
    refine Fin.cut (ρ' := put (put (put (put (put (ρ) (some 1) (.slice l_a l_n l_c)) (some 2) (.bool raw)) (some 7) (.pointer r)) (some 8) (.pointer (some w0_1))) (some 9) (.int .i64 i)) ?_ (by rw [put_id e1, put_id e2, put_id e7, put_id e8, put_id e9])
    refine evT_sound (ok 137) (drawD_sound (ok 137) herdsmanlaw7_RingPlays.scr) 600 (L := [(15, fun ρ w => herdsmanlaw7_RingPlays.d15 (fun l_a l_n l_c raw r w0_1 i x => herdsmanlaw7_RingPlays.b15 (herdsmanlaw7_RingPlays.b10 Q k) Q l_a l_n l_c raw r w0_1 i x w) ρ)]) (leaf_of (fn := Go.Proofs.Try.f5) [15, 15] (by kernel_rfl) ⟨fun ρ w h => by obtain ⟨l_a, l_n, l_c, raw, r, w0_1, i, x, e1, e2, e7, e8, e9, e10, h⟩ := herdsmanlaw7_RingPlays.d15_elim (ρ := ρ) h; exact herdsmanlaw7_RingPlays.f15 (herdsmanlaw7_RingPlays.b10 Q k) Q ih l_a l_n l_c raw r w0_1 i x w h ρ e1 e2 e7 e8 e9 e10, trivial⟩) (castK h (by kernel_rfl))
set_option maxRecDepth 100000 in
theorem herdsmanlaw7_RingPlays.f3 (Q : Bool → World → Prop) : ∀ from0 l_a l_n l_c raw w, herdsmanlaw7_RingPlays.b3 Q from0 l_a l_n l_c raw w → ∀ ρ : Env, ρ 0 = .int .i64 from0 → ρ 1 = .slice l_a l_n l_c → ρ 2 = .bool raw → Fin (cx 137) (todoOf Go.Proofs.Try.f5 3) ρ w (herdsmanlaw7_RingPlays.R Q) := by
  intro from0 l_a l_n l_c raw w h ρ e0 e1 e2
  refine Fin.cut (ρ' := put (put (put (ρ) (some 0) (.int .i64 from0)) (some 1) (.slice l_a l_n l_c)) (some 2) (.bool raw)) ?_ (by rw [put_id e0, put_id e1, put_id e2])
  refine evT_sound (ok 137) (drawD_sound (ok 137) herdsmanlaw7_RingPlays.scr) 600 (L := [(5, fun ρ w => herdsmanlaw7_RingPlays.d5 (fun r => herdsmanlaw7_RingPlays.b5 Q r w) ρ), (10, fun ρ w => herdsmanlaw7_RingPlays.d10 (fun l_a l_n l_c raw r w0_1 i => ∃ k', herdsmanlaw7_RingPlays.b10 Q k' l_a l_n l_c raw r w0_1 i w) ρ)]) (leaf_of (fn := Go.Proofs.Try.f5) [5, 10] (by kernel_rfl) ⟨fun ρ w h => by obtain ⟨r, e7, h⟩ := herdsmanlaw7_RingPlays.d5_elim (ρ := ρ) h; exact herdsmanlaw7_RingPlays.f5 Q r w h ρ e7, fun ρ w h => by obtain ⟨l_a, l_n, l_c, raw, r, w0_1, i, e1, e2, e7, e8, e9, h⟩ := herdsmanlaw7_RingPlays.d10_elim (ρ := ρ) h; obtain ⟨k', h⟩ := h; exact herdsmanlaw7_RingPlays.f10 Q k' l_a l_n l_c raw r w0_1 i w h ρ e1 e2 e7 e8 e9, trivial⟩) (castK h (by kernel_rfl))
set_option maxRecDepth 100000 in
theorem herdsmanlaw7_RingPlays.body (from0 : Int) (l_a : Option Addr) (l_n : Nat) (l_c : Nat) (raw : Bool) (w : World) (Q : Bool → World → Prop) (h : herdsmanlaw7_RingPlays.sh from0 l_a l_n l_c raw w Q) : herdsmanlaw7_RingPlays.call from0 l_a l_n l_c raw w Q := by
  refine call_fn (ok 137) (fn := Go.Proofs.Try.f5) (args := [.int .i64 from0, .slice l_a l_n l_c, .bool raw]) (K := herdsmanlaw7_RingPlays.qv Q) Go.Proofs.Try.func5 (by kernel_rfl) (by kernel_rfl) (by kernel_rfl) ?_
  refine evT_sound (ok 137) (drawD_sound (ok 137) herdsmanlaw7_RingPlays.scr) 600 (L := [(3, fun ρ w => herdsmanlaw7_RingPlays.d3 (fun from0 l_a l_n l_c raw => herdsmanlaw7_RingPlays.b3 Q from0 l_a l_n l_c raw w) ρ)]) (leaf_of (fn := Go.Proofs.Try.f5) [3, 3] (by kernel_rfl) ⟨fun ρ w h => by obtain ⟨from0, l_a, l_n, l_c, raw, e0, e1, e2, h⟩ := herdsmanlaw7_RingPlays.d3_elim (ρ := ρ) h; exact herdsmanlaw7_RingPlays.f3 Q from0 l_a l_n l_c raw w h ρ e0 e1 e2, trivial⟩) (castK h (by kernel_rfl))
end Go.Proofs.Ytfmhpmpfkmhgpaa.S
