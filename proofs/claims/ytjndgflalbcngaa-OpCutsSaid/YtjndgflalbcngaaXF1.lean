/- What the bodies ask, and that a call is no more. Printed by a program of this work (sxgen.py) out of the translation. -/
import Derived.Test.YtjndgflalbcngaaXT
set_option linter.unusedVariables false
set_option linter.unusedSimpArgs false
namespace Go.Proofs.Ytjndgflalbcngaa.S
open Go.Sx
/-! ### 13 herdsman/herdsmanref1.Within -/
def herdsmanref1_Within.sh (n : Int) (lo : Int) (hi : Int) (w : World) (Q : Int → World → Prop) : Prop :=
  NZ (IntKind.wrap .i64 ((IntKind.wrap .i64 (hi - lo)) + 1)) <|
  cond (decide ((Int.tmod n (IntKind.wrap .i64 ((IntKind.wrap .i64 (hi - lo)) + 1))) < 0))
  (Q (IntKind.wrap .i64 (lo + (IntKind.wrap .i64 ((IntKind.wrap .i64 ((IntKind.wrap .i64 ((Int.tmod n (IntKind.wrap .i64 ((IntKind.wrap .i64 (hi - lo)) + 1))) + hi)) - lo)) + 1)))) w)
  (Q (IntKind.wrap .i64 (lo + (Int.tmod n (IntKind.wrap .i64 ((IntKind.wrap .i64 (hi - lo)) + 1))))) w)
noncomputable def herdsmanref1_Within.scr : Scrs := []
def herdsmanref1_Within.R (Q : Int → World → Prop) (ρ : Env) (w : World) : Prop := evRes (cx 24) Go.Proofs.Try.f13.results.toList ρ w fun vs => herdsmanref1_Within.qv Q (resV vs) w
set_option maxRecDepth 100000 in
theorem herdsmanref1_Within.body (n : Int) (lo : Int) (hi : Int) (w : World) (Q : Int → World → Prop) (h : herdsmanref1_Within.sh n lo hi w Q) : herdsmanref1_Within.call n lo hi w Q := by
  refine call_fn (ok 24) (fn := Go.Proofs.Try.f13) (args := [.int .i64 n, .int .i64 lo, .int .i64 hi]) (K := herdsmanref1_Within.qv Q) Go.Proofs.Try.func13 (by kernel_rfl) (by kernel_rfl) (by kernel_rfl) ?_
  refine evT_sound (ok 24) (drawD_sound (ok 24) herdsmanref1_Within.scr) 600 (L := []) (leaf_of (fn := Go.Proofs.Try.f13) [] (by kernel_rfl) trivial) (castK h (by kernel_rfl))
/-! ### 23 herdsman/op.cut -/
def op_cut.sh (b_a : Option Addr) (b_n : Nat) (b_c : Nat) (w : World) (Q : Bool → World → Prop) : Prop :=
  cond ((b_n : Int) == 0)
  (Q false w)
  (op_read.call b_a b_n b_c w fun r10_0_0 r10_0_1 r10_0_2 r10_0_3_a r10_0_3_n r10_0_3_c r10_1 w0_1 =>
  Al T 30 w0_1 fun p3 w0_2 =>
  St (p3.add 0) (.int .i64 r10_0_0) w0_2 fun w0_3 =>
  St (p3.add 1) (.int .i64 r10_0_1) w0_3 fun w0_4 =>
  St (p3.add 2) (.int .i64 r10_0_2) w0_4 fun w0_5 =>
  St (p3.add 3) (.slice r10_0_3_a r10_0_3_n r10_0_3_c) w0_5 fun w0_6 =>
  Q (r10_1 == 0) w0_6)
noncomputable def op_cut.scr : Scrs := []
def op_cut.R (Q : Bool → World → Prop) (ρ : Env) (w : World) : Prop := evRes (cx 15) Go.Proofs.Try.f23.results.toList ρ w fun vs => op_cut.qv Q (resV vs) w
set_option maxRecDepth 100000 in
theorem op_cut.body (b_a : Option Addr) (b_n : Nat) (b_c : Nat) (w : World) (Q : Bool → World → Prop) (h : op_cut.sh b_a b_n b_c w Q) : op_cut.call b_a b_n b_c w Q := by
  refine call_fn (ok 15) (fn := Go.Proofs.Try.f23) (args := [.slice b_a b_n b_c]) (K := op_cut.qv Q) Go.Proofs.Try.func23 (by kernel_rfl) (by kernel_rfl) (by kernel_rfl) ?_
  refine evT_sound (ok 15) (drawD_sound (ok 15) op_cut.scr) 600 (L := []) (leaf_of (fn := Go.Proofs.Try.f23) [] (by kernel_rfl) trivial) (castK h (by kernel_rfl))
/-! ### 25 herdsman/op.fits -/
def op_fits.sh (n : Int) (size : Int) (w : World) (Q : Bool → World → Prop) : Prop :=
  cond (decide (n ≥ 0))
  (NNg (IntKind.wrap .i64 (8 * size)) <|
  Q (decide (n < (ishl .i64 1 (IntKind.wrap .i64 (8 * size))))) w)
  (Q false w)
noncomputable def op_fits.scr : Scrs := []
def op_fits.R (Q : Bool → World → Prop) (ρ : Env) (w : World) : Prop := evRes (cx 14) Go.Proofs.Try.f25.results.toList ρ w fun vs => op_fits.qv Q (resV vs) w
set_option maxRecDepth 100000 in
theorem op_fits.body (n : Int) (size : Int) (w : World) (Q : Bool → World → Prop) (h : op_fits.sh n size w Q) : op_fits.call n size w Q := by
  refine call_fn (ok 14) (fn := Go.Proofs.Try.f25) (args := [.int .i64 n, .int .i64 size]) (K := op_fits.qv Q) Go.Proofs.Try.func25 (by kernel_rfl) (by kernel_rfl) (by kernel_rfl) ?_
  refine evT_sound (ok 14) (drawD_sound (ok 14) op_fits.scr) 600 (L := []) (leaf_of (fn := Go.Proofs.Try.f25) [] (by kernel_rfl) trivial) (castK h (by kernel_rfl))
/-! ### 14 herdsman/op.May -/
def op_May.sh (o_Kind : Int) (o_A : Int) (o_B : Int) (o_Map_a : Option Addr) (o_Map_n : Nat) (o_Map_c : Nat) (w : World) (Q : Bool → World → Prop) : Prop :=
  Bx [.int .i64 o_Kind, .int .i64 o_A, .int .i64 o_B, .slice o_Map_a o_Map_n o_Map_c] 30 w fun o_b w0_1 =>
  LdI .i64 o_b w0_1 fun x8 =>
  cond (x8 == 0)
  (LdI .i64 (o_b.add 1) w0_1 fun x11 =>
  cond (x11 == (-1))
  (LdI .i64 (o_b.add 2) w0_1 fun x14 =>
  cond (x14 == 0)
  (LdS (o_b.add 3) w0_1 fun x18_a x18_n x18_c =>
  op_cut.call x18_a x18_n x18_c w0_1 fun r19 w0_2 =>
  Q r19 w0_2)
  (Q false w0_1))
  (LdI .i64 (o_b.add 1) w0_1 fun x23 =>
  op_shaped.call x23 w0_1 fun r24_0_0 r24_0_1 r24_0_2 r24_1 w0_3 =>
  Al T 47 w0_3 fun p3 w0_4 =>
  St (p3.add 0) (.int .i64 r24_0_0) w0_4 fun w0_5 =>
  St (p3.add 1) (.int .i64 r24_0_1) w0_5 fun w0_6 =>
  St (p3.add 2) (.bool r24_0_2) w0_6 fun w0_7 =>
  LdI .i64 (o_b.add 1) w0_7 fun x28 =>
  op_fits.call x28 1 w0_7 fun r29 w0_8 =>
  cond r29
  (cond (!r24_1)
  (LdI .i64 (o_b.add 2) w0_8 fun x36 =>
  cond (x36 == 0)
  (LdS (o_b.add 3) w0_8 fun x41_a x41_n x41_c =>
  Q ((x41_n : Int) == 0) w0_8)
  (Q false w0_8))
  (Q false w0_8))
  (Q false w0_8)))
  (LdI .i64 o_b w0_1 fun x47 =>
  op_shaped.call x47 w0_1 fun r48_0_0 r48_0_1 r48_0_2 r48_1 w0_9 =>
  Al T 47 w0_9 fun s0 w0_10 =>
  St (s0.add 0) (.int .i64 r48_0_0) w0_10 fun w0_11 =>
  St (s0.add 1) (.int .i64 r48_0_1) w0_11 fun w0_12 =>
  St (s0.add 2) (.bool r48_0_2) w0_12 fun w0_13 =>
  cond r48_1
  (LdI .i64 (o_b.add 1) w0_13 fun x54 =>
  LdI .i64 s0 w0_13 fun x56 =>
  op_fits.call x54 x56 w0_13 fun r57 w0_14 =>
  cond r57
  (LdI .i64 (o_b.add 2) w0_14 fun x61 =>
  LdI .i64 (s0.add 1) w0_14 fun x63 =>
  op_fits.call x61 x63 w0_14 fun r64 w0_15 =>
  cond r64
  (LdS (o_b.add 3) w0_15 fun x68_a x68_n x68_c =>
  cond ((x68_n : Int) == 0)
  (Q true w0_15)
  (LdB (s0.add 2) w0_15 fun x73 =>
  cond x73
  (LdS (o_b.add 3) w0_15 fun x76_a x76_n x76_c =>
  Q (decide ((x76_n : Int) ≤ 4294967295)) w0_15)
  (Q false w0_15)))
  (Q false w0_15))
  (Q false w0_14))
  (Q false w0_13))
noncomputable def op_May.scr : Scrs := []
def op_May.R (Q : Bool → World → Prop) (ρ : Env) (w : World) : Prop := evRes (cx 82) Go.Proofs.Try.f14.results.toList ρ w fun vs => op_May.qv Q (resV vs) w
set_option maxRecDepth 100000 in
theorem op_May.body (o_Kind : Int) (o_A : Int) (o_B : Int) (o_Map_a : Option Addr) (o_Map_n : Nat) (o_Map_c : Nat) (w : World) (Q : Bool → World → Prop) (h : op_May.sh o_Kind o_A o_B o_Map_a o_Map_n o_Map_c w Q) : op_May.call o_Kind o_A o_B o_Map_a o_Map_n o_Map_c w Q := by
  refine call_fn (ok 82) (fn := Go.Proofs.Try.f14) (args := [.agg #[.int .i64 o_Kind, .int .i64 o_A, .int .i64 o_B, .slice o_Map_a o_Map_n o_Map_c]]) (K := op_May.qv Q) Go.Proofs.Try.func14 (by kernel_rfl) (by kernel_rfl) (by kernel_rfl) ?_
  refine evT_sound (ok 82) (drawD_sound (ok 82) op_May.scr) 600 (L := []) (leaf_of (fn := Go.Proofs.Try.f14) [] (by kernel_rfl) trivial) (castK h (by kernel_rfl))
/-! ### 15 herdsman/herdsmanref26.May -/
def herdsmanref26_May.b15 (Q : Bool → World → Prop) (o : Addr) (w : World) : Prop :=
  LdI .i64 (o.add 1) w fun x80 =>
  herdsmanref1_In.call x80 0 4294967295 w fun r81 w0_1 =>
  cond r81
  (LdI .i64 (o.add 2) w0_1 fun x84 =>
  herdsmanref1_In.call x84 0 4294967295 w0_1 fun r85 w0_2 =>
  Q r85 w0_2)
  (Q false w0_1)
def herdsmanref26_May.b20 (Q : Bool → World → Prop) (o : Addr) (w : World) : Prop :=
  LdI .i64 (o.add 1) w fun x101 =>
  cond (x101 == 0)
  (LdI .i64 (o.add 2) w fun x105 =>
  Q (x105 == 0) w)
  (Q false w)
def herdsmanref26_May.b5 (Q : Bool → World → Prop) (o : Addr) (w : World) : Prop :=
  LdS (o.add 3) w fun x44_a x44_n x44_c =>
  cond (decide ((x44_n : Int) > 0))
  (Q false w)
  (LdI .i64 o w fun x48 =>
  cond (x48 == 0)
  (LdI .i64 (o.add 2) w fun x52 =>
  cond (x52 == 0)
  (LdI .i64 (o.add 1) w fun x56 =>
  herdsmanref1_In.call x56 0 255 w fun r57 w0_1 =>
  cond r57
  (LdI .i64 (o.add 1) w0_1 fun x61 =>
  herdsmanref1_In.call x61 1 8 w0_1 fun r62 w0_2 =>
  Q (!r62) w0_2)
  (Q false w0_1))
  (Q false w))
  (cond (x48 == 2)
  (LdI .i64 (o.add 1) w fun x68 =>
  herdsmanref1_In.call x68 0 4294967295 w fun r69 w0_3 =>
  cond r69
  (LdI .i64 (o.add 2) w0_3 fun x72 =>
  herdsmanref1_In.call x72 0 255 w0_3 fun r73 w0_4 =>
  Q r73 w0_4)
  (Q false w0_3))
  (cond (x48 == 3)
  (herdsmanref26_May.b15 Q o w)
  (cond (x48 == 4)
  (herdsmanref26_May.b15 Q o w)
  (cond (x48 == 6)
  (herdsmanref26_May.b15 Q o w)
  (cond (x48 == 5)
  (LdI .i64 (o.add 1) w fun x90 =>
  herdsmanref1_In.call x90 0 4294967295 w fun r91 w0_5 =>
  cond r91
  (LdI .i64 (o.add 2) w0_5 fun x94 =>
  Q (x94 == 0) w0_5)
  (Q false w0_5))
  (cond (x48 == 7)
  (herdsmanref26_May.b20 Q o w)
  (cond (x48 == 8)
  (herdsmanref26_May.b20 Q o w)
  (Q false w)))))))))
def herdsmanref26_May.sh (o_Kind : Int) (o_A : Int) (o_B : Int) (o_Map_a : Option Addr) (o_Map_n : Nat) (o_Map_c : Nat) (w : World) (Q : Bool → World → Prop) : Prop :=
  Bx [.int .i64 o_Kind, .int .i64 o_A, .int .i64 o_B, .slice o_Map_a o_Map_n o_Map_c] 30 w fun o_b w0_1 =>
  LdI .i64 o_b w0_1 fun x4 =>
  cond (x4 == 1)
  (LdI .i64 (o_b.add 1) w0_1 fun x7 =>
  cond (x7 == 0)
  (LdI .i64 (o_b.add 2) w0_1 fun x11 =>
  cond (x11 == 0)
  (LdS (o_b.add 3) w0_1 fun x16_a x16_n x16_c =>
  Q (decide ((x16_n : Int) ≤ 4294967295)) w0_1)
  (Q false w0_1))
  (Q false w0_1))
  (LdI .i64 o_b w0_1 fun x21 =>
  cond (x21 == 0)
  (LdI .i64 (o_b.add 1) w0_1 fun x25 =>
  cond (x25 == (-1))
  (LdI .i64 (o_b.add 2) w0_1 fun x29 =>
  cond (x29 == 0)
  (LdS (o_b.add 3) w0_1 fun x33_a x33_n x33_c =>
  cond (decide ((x33_n : Int) > 0))
  (LdS (o_b.add 3) w0_1 fun x39_a x39_n x39_c =>
  herdsmanref26_long.call x39_a x39_n x39_c w0_1 fun r40 w0_2 =>
  Q (r40 == (-1)) w0_2)
  (Q false w0_1))
  (Q false w0_1))
  (herdsmanref26_May.b5 Q o_b w0_1))
  (herdsmanref26_May.b5 Q o_b w0_1))
noncomputable def herdsmanref26_May.scr : Scrs := []
def herdsmanref26_May.R (Q : Bool → World → Prop) (ρ : Env) (w : World) : Prop := evRes (cx 108) Go.Proofs.Try.f15.results.toList ρ w fun vs => herdsmanref26_May.qv Q (resV vs) w
def herdsmanref26_May.d5 (K : Addr → Prop) (ρ : Env) : Prop :=
  dP (ρ 1) fun o_p => wA o_p fun o => K o
theorem herdsmanref26_May.d5_elim {K : Addr → Prop} {ρ : Env} (h0 : herdsmanref26_May.d5 K ρ) : ∃ (o : Addr), ρ 1 = .pointer (some o) ∧ K o := by
  obtain ⟨o_p, e1, h1⟩ := dP_elim h0
  obtain ⟨o, rfl, h2⟩ := wA_elim h1
  exact ⟨o, e1, h2⟩
def herdsmanref26_May.d15 (K : Addr → Prop) (ρ : Env) : Prop :=
  dP (ρ 1) fun o_p => wA o_p fun o => K o
theorem herdsmanref26_May.d15_elim {K : Addr → Prop} {ρ : Env} (h0 : herdsmanref26_May.d15 K ρ) : ∃ (o : Addr), ρ 1 = .pointer (some o) ∧ K o := by
  obtain ⟨o_p, e1, h1⟩ := dP_elim h0
  obtain ⟨o, rfl, h2⟩ := wA_elim h1
  exact ⟨o, e1, h2⟩
def herdsmanref26_May.d20 (K : Addr → Prop) (ρ : Env) : Prop :=
  dP (ρ 1) fun o_p => wA o_p fun o => K o
theorem herdsmanref26_May.d20_elim {K : Addr → Prop} {ρ : Env} (h0 : herdsmanref26_May.d20 K ρ) : ∃ (o : Addr), ρ 1 = .pointer (some o) ∧ K o := by
  obtain ⟨o_p, e1, h1⟩ := dP_elim h0
  obtain ⟨o, rfl, h2⟩ := wA_elim h1
  exact ⟨o, e1, h2⟩
set_option maxRecDepth 100000 in
theorem herdsmanref26_May.f15 (Q : Bool → World → Prop) : ∀ o w, herdsmanref26_May.b15 Q o w → ∀ ρ : Env, ρ 1 = .pointer (some o) → Fin (cx 108) (todoOf Go.Proofs.Try.f15 15) ρ w (herdsmanref26_May.R Q) := by
  intro o w h ρ e1
  refine Fin.cut (ρ' := put (ρ) (some 1) (.pointer (some o))) ?_ (by rw [put_id e1])
  refine evT_sound (ok 108) (drawD_sound (ok 108) herdsmanref26_May.scr) 600 (L := []) (leaf_of (fn := Go.Proofs.Try.f15) [] (by kernel_rfl) trivial) (castK h (by kernel_rfl))
set_option maxRecDepth 100000 in
theorem herdsmanref26_May.f20 (Q : Bool → World → Prop) : ∀ o w, herdsmanref26_May.b20 Q o w → ∀ ρ : Env, ρ 1 = .pointer (some o) → Fin (cx 108) (todoOf Go.Proofs.Try.f15 20) ρ w (herdsmanref26_May.R Q) := by
  intro o w h ρ e1
  refine Fin.cut (ρ' := put (ρ) (some 1) (.pointer (some o))) ?_ (by rw [put_id e1])
  refine evT_sound (ok 108) (drawD_sound (ok 108) herdsmanref26_May.scr) 600 (L := []) (leaf_of (fn := Go.Proofs.Try.f15) [] (by kernel_rfl) trivial) (castK h (by kernel_rfl))
set_option maxRecDepth 100000 in
theorem herdsmanref26_May.f5 (Q : Bool → World → Prop) : ∀ o w, herdsmanref26_May.b5 Q o w → ∀ ρ : Env, ρ 1 = .pointer (some o) → Fin (cx 108) (todoOf Go.Proofs.Try.f15 5) ρ w (herdsmanref26_May.R Q) := by
  intro o w h ρ e1
  refine Fin.cut (ρ' := put (ρ) (some 1) (.pointer (some o))) ?_ (by rw [put_id e1])
  refine evT_sound (ok 108) (drawD_sound (ok 108) herdsmanref26_May.scr) 600 (L := [(15, fun ρ w => herdsmanref26_May.d15 (fun o => herdsmanref26_May.b15 Q o w) ρ), (20, fun ρ w => herdsmanref26_May.d20 (fun o => herdsmanref26_May.b20 Q o w) ρ)]) (leaf_of (fn := Go.Proofs.Try.f15) [15, 20, 20, 15, 20, 20, 15, 20, 20] (by kernel_rfl) ⟨fun ρ w h => by obtain ⟨o, e1, h⟩ := herdsmanref26_May.d15_elim (ρ := ρ) h; exact herdsmanref26_May.f15 Q o w h ρ e1, fun ρ w h => by obtain ⟨o, e1, h⟩ := herdsmanref26_May.d20_elim (ρ := ρ) h; exact herdsmanref26_May.f20 Q o w h ρ e1, trivial⟩) (castK h (by kernel_rfl))
set_option maxRecDepth 100000 in
theorem herdsmanref26_May.body (o_Kind : Int) (o_A : Int) (o_B : Int) (o_Map_a : Option Addr) (o_Map_n : Nat) (o_Map_c : Nat) (w : World) (Q : Bool → World → Prop) (h : herdsmanref26_May.sh o_Kind o_A o_B o_Map_a o_Map_n o_Map_c w Q) : herdsmanref26_May.call o_Kind o_A o_B o_Map_a o_Map_n o_Map_c w Q := by
  refine call_fn (ok 108) (fn := Go.Proofs.Try.f15) (args := [.agg #[.int .i64 o_Kind, .int .i64 o_A, .int .i64 o_B, .slice o_Map_a o_Map_n o_Map_c]]) (K := herdsmanref26_May.qv Q) Go.Proofs.Try.func15 (by kernel_rfl) (by kernel_rfl) (by kernel_rfl) ?_
  refine evT_sound (ok 108) (drawD_sound (ok 108) herdsmanref26_May.scr) 600 (L := [(5, fun ρ w => herdsmanref26_May.d5 (fun o => herdsmanref26_May.b5 Q o w) ρ)]) (leaf_of (fn := Go.Proofs.Try.f15) [5] (by kernel_rfl) ⟨fun ρ w h => by obtain ⟨o, e1, h⟩ := herdsmanref26_May.d5_elim (ρ := ρ) h; exact herdsmanref26_May.f5 Q o w h ρ e1, trivial⟩) (castK h (by kernel_rfl))
/-! ### 35 herdsman/op.put -/
def op_put.s2 (Q : Option Addr → Nat → Nat → World → Prop) (R2 : Option Addr → Nat → Nat → Int → Int → Int → World → Prop) (b_a : Option Addr) (b_n : Nat) (b_c : Nat) (n : Int) (t7 : Int) (t8 : Int) (w : World) : Prop :=
  cond (decide (t8 < t7))
  (Bx [.int .u8 (IntKind.wrap .u8 n)] 5 w fun p13_s w0_1 =>
  App P #[22, 22] 22 (.slice b_a b_n b_c) (.slice (some p13_s) 1 1) w0_1 fun r14_a r14_n r14_c w0_2 =>
  NNg 8 <|
  R2 r14_a r14_n r14_c (ishr .i64 n 8) t7 (IntKind.wrap .i64 (t8 + 1)) w0_2)
  (Q b_a b_n b_c w)
def op_put.b2 (Q : Option Addr → Nat → Nat → World → Prop) : Nat → Option Addr → Nat → Nat → Int → Int → Int → World → Prop
  | 0, _, _, _, _, _, _, _ => False
  | k + 1, b_a, b_n, b_c, n, t7, t8, w => op_put.s2 Q (op_put.b2 Q k) b_a b_n b_c n t7 t8 w
def op_put.sh (b_a : Option Addr) (b_n : Nat) (b_c : Nat) (n : Int) (size : Int) (w : World) (Q : Option Addr → Nat → Nat → World → Prop) : Prop :=
  ∃ k', op_put.b2 Q k' b_a b_n b_c n size 0 w
noncomputable def op_put.scr : Scrs := []
def op_put.R (Q : Option Addr → Nat → Nat → World → Prop) (ρ : Env) (w : World) : Prop := evRes (cx 19) Go.Proofs.Try.f35.results.toList ρ w fun vs => op_put.qv Q (resV vs) w
def op_put.d2 (K : Option Addr → Nat → Nat → Int → Int → Int → Prop) (ρ : Env) : Prop :=
  dS (ρ 0) fun b_a b_n b_c => dI .i64 (ρ 1) fun n => dI .i64 (ρ 7) fun t7 => dI .i64 (ρ 8) fun t8 => K b_a b_n b_c n t7 t8
theorem op_put.d2_elim {K : Option Addr → Nat → Nat → Int → Int → Int → Prop} {ρ : Env} (h0 : op_put.d2 K ρ) : ∃ (b_a : Option Addr) (b_n : Nat) (b_c : Nat) (n : Int) (t7 : Int) (t8 : Int), ρ 0 = .slice b_a b_n b_c ∧ ρ 1 = .int .i64 n ∧ ρ 7 = .int .i64 t7 ∧ ρ 8 = .int .i64 t8 ∧ K b_a b_n b_c n t7 t8 := by
  obtain ⟨b_a, b_n, b_c, e0, h1⟩ := dS_elim h0
  obtain ⟨n, e1, h2⟩ := dI_elim h1
  obtain ⟨t7, e7, h3⟩ := dI_elim h2
  obtain ⟨t8, e8, h4⟩ := dI_elim h3
  exact ⟨b_a, b_n, b_c, n, t7, t8, e0, e1, e7, e8, h4⟩
set_option maxRecDepth 100000 in
theorem op_put.f2 (Q : Option Addr → Nat → Nat → World → Prop) : ∀ k b_a b_n b_c n t7 t8 w, op_put.b2 Q k b_a b_n b_c n t7 t8 w → ∀ ρ : Env, ρ 0 = .slice b_a b_n b_c → ρ 1 = .int .i64 n → ρ 7 = .int .i64 t7 → ρ 8 = .int .i64 t8 → Fin (cx 19) (todoOf Go.Proofs.Try.f35 2) ρ w (op_put.R Q) := by
  intro k
  induction k with
  | zero => intro b_a b_n b_c n t7 t8 w h; exact h.elim
  | succ k ih =>
    intro b_a b_n b_c n t7 t8 w h ρ e0 e1 e7 e8
    have h : op_put.s2 Q (op_put.b2 Q k) b_a b_n b_c n t7 t8 w := h
    refine Fin.cut (ρ' := put (put (put (put (ρ) (some 0) (.slice b_a b_n b_c)) (some 1) (.int .i64 n)) (some 7) (.int .i64 t7)) (some 8) (.int .i64 t8)) ?_ (by rw [put_id e0, put_id e1, put_id e7, put_id e8])
    refine evT_sound (ok 19) (drawD_sound (ok 19) op_put.scr) 600 (L := [(2, fun ρ w => op_put.d2 (fun b_a b_n b_c n t7 t8 => op_put.b2 Q k b_a b_n b_c n t7 t8 w) ρ)]) (leaf_of (fn := Go.Proofs.Try.f35) [2] (by kernel_rfl) ⟨fun ρ w h => by obtain ⟨b_a, b_n, b_c, n, t7, t8, e0, e1, e7, e8, h⟩ := op_put.d2_elim (ρ := ρ) h; exact ih b_a b_n b_c n t7 t8 w h ρ e0 e1 e7 e8, trivial⟩) (castK h (by kernel_rfl))
set_option maxRecDepth 100000 in
theorem op_put.body (b_a : Option Addr) (b_n : Nat) (b_c : Nat) (n : Int) (size : Int) (w : World) (Q : Option Addr → Nat → Nat → World → Prop) (h : op_put.sh b_a b_n b_c n size w Q) : op_put.call b_a b_n b_c n size w Q := by
  refine call_fn (ok 19) (fn := Go.Proofs.Try.f35) (args := [.slice b_a b_n b_c, .int .i64 n, .int .i64 size]) (K := op_put.qv Q) Go.Proofs.Try.func35 (by kernel_rfl) (by kernel_rfl) (by kernel_rfl) ?_
  refine evT_sound (ok 19) (drawD_sound (ok 19) op_put.scr) 600 (L := [(2, fun ρ w => op_put.d2 (fun b_a b_n b_c n t7 t8 => ∃ k', op_put.b2 Q k' b_a b_n b_c n t7 t8 w) ρ)]) (leaf_of (fn := Go.Proofs.Try.f35) [2] (by kernel_rfl) ⟨fun ρ w h => by obtain ⟨b_a, b_n, b_c, n, t7, t8, e0, e1, e7, e8, h⟩ := op_put.d2_elim (ρ := ρ) h; obtain ⟨k', h⟩ := h; exact op_put.f2 Q k' b_a b_n b_c n t7 t8 w h ρ e0 e1 e7 e8, trivial⟩) (castK h (by kernel_rfl))
/-! ### 27 herdsman/op.write -/
def op_write.b4 (Q : Option Addr → Nat → Nat → World → Prop) (b_a : Option Addr) (b_n : Nat) (b_c : Nat) (o : Addr) (w : World) : Prop :=
  LdS (o.add 3) w fun x21_a x21_n x21_c =>
  App P #[22, 22] 22 (.slice b_a b_n b_c) (.slice x21_a x21_n x21_c) w fun r22_a r22_n r22_c w0_1 =>
  Q r22_a r22_n r22_c w0_1
def op_write.b9 (Q : Option Addr → Nat → Nat → World → Prop) (b_a : Option Addr) (b_n : Nat) (b_c : Nat) (o : Addr) (s0 : Addr) (w : World) : Prop :=
  LdI .i64 (o.add 1) w.drew fun x44 =>
  LdI .i64 s0 w.drew fun x46 =>
  LdI .i64 (o.add 2) w.drew fun x49 =>
  LdI .i64 (s0.add 1) w.drew fun x51 =>
  LdS (o.add 3) w.drew fun x54_a x54_n x54_c =>
  op_put.call b_a b_n b_c x44 x46 w.drew fun r47_a r47_n r47_c w0_1 =>
  w0_1.cell? (o.add 3) = some (.slice x54_a x54_n x54_c) ∧
  w0_1.cell? (s0.add 1) = some (.int .i64 x51) ∧
  w0_1.cell? (o.add 2) = some (.int .i64 x49) ∧
  op_put.call r47_a r47_n r47_c x49 x51 w0_1 fun r52_a r52_n r52_c w0_2 =>
  w0_2.cell? (o.add 3) = some (.slice x54_a x54_n x54_c) ∧
  App P #[22, 22] 22 (.slice r52_a r52_n r52_c) (.slice x54_a x54_n x54_c) w0_2 fun r55_a r55_n r55_c w0_3 =>
  Q r55_a r55_n r55_c w0_3
def op_write.sh (b_a : Option Addr) (b_n : Nat) (b_c : Nat) (o_Kind : Int) (o_A : Int) (o_B : Int) (o_Map_a : Option Addr) (o_Map_n : Nat) (o_Map_c : Nat) (w : World) (Q : Option Addr → Nat → Nat → World → Prop) : Prop :=
  Bx [.int .i64 o_Kind, .int .i64 o_A, .int .i64 o_B, .slice o_Map_a o_Map_n o_Map_c] 30 w fun o_b w0_1 =>
  LdI .i64 o_b w0_1 fun x8 =>
  cond (x8 == 0)
  (LdI .i64 (o_b.add 1) w0_1 fun x11 =>
  cond (decide (x11 ≥ 0))
  (LdI .i64 (o_b.add 1) w0_1 fun x15 =>
  Bx [.int .u8 (IntKind.wrap .u8 x15)] 5 w0_1 fun p17_s w0_2 =>
  App P #[22, 22] 22 (.slice b_a b_n b_c) (.slice (some p17_s) 1 1) w0_2 fun r18_a r18_n r18_c w0_3 =>
  op_write.b4 Q r18_a r18_n r18_c o_b w0_3)
  (op_write.b4 Q b_a b_n b_c o_b w0_1))
  (LdI .i64 o_b w0_1 fun x25 =>
  op_shaped.call x25 w0_1 fun r26_0_0 r26_0_1 r26_0_2 r26_1 w0_4 =>
  Al T 47 w0_4 fun s0 w0_5 =>
  St (s0.add 0) (.int .i64 r26_0_0) w0_5 fun w0_6 =>
  St (s0.add 1) (.int .i64 r26_0_1) w0_6 fun w0_7 =>
  St (s0.add 2) (.bool r26_0_2) w0_7 fun w0_8 =>
  LdI .i64 o_b w0_8 fun x31 =>
  Bx [.int .u8 (IntKind.wrap .u8 x31)] 5 w0_8 fun p33_s w0_9 =>
  App P #[22, 22] 22 (.slice b_a b_n b_c) (.slice (some p33_s) 1 1) w0_9 fun r34_a r34_n r34_c w0_10 =>
  LdB (s0.add 2) w0_10 fun x36 =>
  cond x36
  (LdS (o_b.add 3) w0_10 fun x39_a x39_n x39_c =>
  op_put.call r34_a r34_n r34_c (x39_n : Int) 4 w0_10 fun r41_a r41_n r41_c w0_11 =>
  op_write.b9 Q r41_a r41_n r41_c o_b s0 w0_11)
  (op_write.b9 Q r34_a r34_n r34_c o_b s0 w0_10))
noncomputable def op_write.scr : Scrs := [(9, .op 0 (.op 1 (.op 2 (.op 3 (.op 4 (.op 6 (.op 7 (.op 8 (.op 9 (.op 11 (.op 12 (.op 5 (.op 10 (.op 13 (.op 14 .done)))))))))))))))]
def op_write.R (Q : Option Addr → Nat → Nat → World → Prop) (ρ : Env) (w : World) : Prop := evRes (cx 56) Go.Proofs.Try.f27.results.toList ρ w fun vs => op_write.qv Q (resV vs) w
def op_write.d4 (K : Option Addr → Nat → Nat → Addr → Prop) (ρ : Env) : Prop :=
  dS (ρ 0) fun b_a b_n b_c => dP (ρ 3) fun o_p => wA o_p fun o => K b_a b_n b_c o
theorem op_write.d4_elim {K : Option Addr → Nat → Nat → Addr → Prop} {ρ : Env} (h0 : op_write.d4 K ρ) : ∃ (b_a : Option Addr) (b_n : Nat) (b_c : Nat) (o : Addr), ρ 0 = .slice b_a b_n b_c ∧ ρ 3 = .pointer (some o) ∧ K b_a b_n b_c o := by
  obtain ⟨b_a, b_n, b_c, e0, h1⟩ := dS_elim h0
  obtain ⟨o_p, e3, h2⟩ := dP_elim h1
  obtain ⟨o, rfl, h3⟩ := wA_elim h2
  exact ⟨b_a, b_n, b_c, o, e0, e3, h3⟩
def op_write.d9 (K : Option Addr → Nat → Nat → Addr → Addr → Prop) (ρ : Env) : Prop :=
  dS (ρ 0) fun b_a b_n b_c => dP (ρ 3) fun o_p => wA o_p fun o => dP (ρ 5) fun s_p => wA s_p fun s0 => K b_a b_n b_c o s0
theorem op_write.d9_elim {K : Option Addr → Nat → Nat → Addr → Addr → Prop} {ρ : Env} (h0 : op_write.d9 K ρ) : ∃ (b_a : Option Addr) (b_n : Nat) (b_c : Nat) (o : Addr) (s0 : Addr), ρ 0 = .slice b_a b_n b_c ∧ ρ 3 = .pointer (some o) ∧ ρ 5 = .pointer (some s0) ∧ K b_a b_n b_c o s0 := by
  obtain ⟨b_a, b_n, b_c, e0, h1⟩ := dS_elim h0
  obtain ⟨o_p, e3, h2⟩ := dP_elim h1
  obtain ⟨o, rfl, h3⟩ := wA_elim h2
  obtain ⟨s_p, e5, h4⟩ := dP_elim h3
  obtain ⟨s0, rfl, h5⟩ := wA_elim h4
  exact ⟨b_a, b_n, b_c, o, s0, e0, e3, e5, h5⟩
set_option maxRecDepth 100000 in
theorem op_write.f4 (Q : Option Addr → Nat → Nat → World → Prop) : ∀ b_a b_n b_c o w, op_write.b4 Q b_a b_n b_c o w → ∀ ρ : Env, ρ 0 = .slice b_a b_n b_c → ρ 3 = .pointer (some o) → Fin (cx 56) (todoOf Go.Proofs.Try.f27 4) ρ w (op_write.R Q) := by
  intro b_a b_n b_c o w h ρ e0 e3
  refine Fin.cut (ρ' := put (put (ρ) (some 0) (.slice b_a b_n b_c)) (some 3) (.pointer (some o))) ?_ (by rw [put_id e0, put_id e3])
  refine evT_sound (ok 56) (drawD_sound (ok 56) op_write.scr) 600 (L := []) (leaf_of (fn := Go.Proofs.Try.f27) [] (by kernel_rfl) trivial) (castK h (by kernel_rfl))
set_option maxRecDepth 100000 in
theorem op_write.f9 (Q : Option Addr → Nat → Nat → World → Prop) : ∀ b_a b_n b_c o s0 w, op_write.b9 Q b_a b_n b_c o s0 w → ∀ ρ : Env, ρ 0 = .slice b_a b_n b_c → ρ 3 = .pointer (some o) → ρ 5 = .pointer (some s0) → Fin (cx 56) (todoOf Go.Proofs.Try.f27 9) ρ w (op_write.R Q) := by
  intro b_a b_n b_c o s0 w h ρ e0 e3 e5
  refine Fin.cut (ρ' := put (put (put (ρ) (some 0) (.slice b_a b_n b_c)) (some 3) (.pointer (some o))) (some 5) (.pointer (some s0))) ?_ (by rw [put_id e0, put_id e3, put_id e5])
  refine evT_sound (ok 56) (drawD_sound (ok 56) op_write.scr) 600 (L := []) (leaf_of (fn := Go.Proofs.Try.f27) [] (by kernel_rfl) trivial) (castK h (by kernel_rfl))
set_option maxRecDepth 100000 in
theorem op_write.body (b_a : Option Addr) (b_n : Nat) (b_c : Nat) (o_Kind : Int) (o_A : Int) (o_B : Int) (o_Map_a : Option Addr) (o_Map_n : Nat) (o_Map_c : Nat) (w : World) (Q : Option Addr → Nat → Nat → World → Prop) (h : op_write.sh b_a b_n b_c o_Kind o_A o_B o_Map_a o_Map_n o_Map_c w Q) : op_write.call b_a b_n b_c o_Kind o_A o_B o_Map_a o_Map_n o_Map_c w Q := by
  refine call_fn (ok 56) (fn := Go.Proofs.Try.f27) (args := [.slice b_a b_n b_c, .agg #[.int .i64 o_Kind, .int .i64 o_A, .int .i64 o_B, .slice o_Map_a o_Map_n o_Map_c]]) (K := op_write.qv Q) Go.Proofs.Try.func27 (by kernel_rfl) (by kernel_rfl) (by kernel_rfl) ?_
  refine evT_sound (ok 56) (drawD_sound (ok 56) op_write.scr) 600 (L := [(4, fun ρ w => op_write.d4 (fun b_a b_n b_c o => op_write.b4 Q b_a b_n b_c o w) ρ), (9, fun ρ w => op_write.d9 (fun b_a b_n b_c o s0 => op_write.b9 Q b_a b_n b_c o s0 w) ρ)]) (leaf_of (fn := Go.Proofs.Try.f27) [4, 4, 9, 9] (by kernel_rfl) ⟨fun ρ w h => by obtain ⟨b_a, b_n, b_c, o, e0, e3, h⟩ := op_write.d4_elim (ρ := ρ) h; exact op_write.f4 Q b_a b_n b_c o w h ρ e0 e3, fun ρ w h => by obtain ⟨b_a, b_n, b_c, o, s0, e0, e3, e5, h⟩ := op_write.d9_elim (ρ := ρ) h; exact op_write.f9 Q b_a b_n b_c o s0 w h ρ e0 e3 e5, trivial⟩) (castK h (by kernel_rfl))
/-! ### 16 herdsman/op.Encode -/
def op_Encode.b7 (P3 : Option Addr → Nat → Nat → Option Addr → Nat → Nat → Option Addr → Nat → Nat → Int → Int → World → Prop) (Q : Option Addr → Nat → Nat → Int → World → Prop) (l_a : Option Addr) (l_n : Nat) (l_c : Nat) (b_a : Option Addr) (b_n : Nat) (b_c : Nat) (o : Addr) (t7_a : Option Addr) (t7_n : Nat) (t7_c : Nat) (t8 : Int) (t9 : Int) (w : World) : Prop :=
  LdI .i64 (o.add 0) w fun x35_Kind =>
  LdI .i64 (o.add 1) w fun x35_A =>
  LdI .i64 (o.add 2) w fun x35_B =>
  LdS (o.add 3) w fun x35_Map_a x35_Map_n x35_Map_c =>
  op_write.call b_a b_n b_c x35_Kind x35_A x35_B x35_Map_a x35_Map_n x35_Map_c w fun r36_a r36_n r36_c w0_1 =>
  P3 l_a l_n l_c r36_a r36_n r36_c t7_a t7_n t7_c t8 (IntKind.wrap .i64 (t9 + 1)) w0_1
def op_Encode.s3 (Q : Option Addr → Nat → Nat → Int → World → Prop) (R3 : Option Addr → Nat → Nat → Option Addr → Nat → Nat → Option Addr → Nat → Nat → Int → Int → World → Prop) (l_a : Option Addr) (l_n : Nat) (l_c : Nat) (b_a : Option Addr) (b_n : Nat) (b_c : Nat) (t7_a : Option Addr) (t7_n : Nat) (t7_c : Nat) (t8 : Int) (t9 : Int) (w : World) : Prop :=
  cond (decide (t9 < t8))
  (InB t9 t7_n <|
  wA t7_a fun p =>
  LdI .i64 ((p.add (t9.toNat * 4)).add 0) w fun x13_Kind =>
  LdI .i64 ((p.add (t9.toNat * 4)).add 1) w fun x13_A =>
  LdI .i64 ((p.add (t9.toNat * 4)).add 2) w fun x13_B =>
  LdS ((p.add (t9.toNat * 4)).add 3) w fun x13_Map_a x13_Map_n x13_Map_c =>
  Al T 30 w fun o w0_1 =>
  St (o.add 0) (.int .i64 x13_Kind) w0_1 fun w0_2 =>
  St (o.add 1) (.int .i64 x13_A) w0_2 fun w0_3 =>
  St (o.add 2) (.int .i64 x13_B) w0_3 fun w0_4 =>
  St (o.add 3) (.slice x13_Map_a x13_Map_n x13_Map_c) w0_4 fun w0_5 =>
  LdI .i64 (o.add 0) w0_5 fun x14_Kind =>
  LdI .i64 (o.add 1) w0_5 fun x14_A =>
  LdI .i64 (o.add 2) w0_5 fun x14_B =>
  LdS (o.add 3) w0_5 fun x14_Map_a x14_Map_n x14_Map_c =>
  op_May.call x14_Kind x14_A x14_B x14_Map_a x14_Map_n x14_Map_c w0_5 fun r15 w0_6 =>
  cond (!r15)
  (Q none 0 0 1 w0_6)
  (LdI .i64 o w0_6 fun x19 =>
  cond (x19 == 0)
  (LdI .i64 (o.add 1) w0_6 fun x23 =>
  cond (x23 == (-1))
  (cond (decide (t9 < (IntKind.wrap .i64 ((l_n : Int) - 1))))
  (Q none 0 0 1 w0_6)
  (op_Encode.b7 R3 Q l_a l_n l_c b_a b_n b_c o t7_a t7_n t7_c t8 t9 w0_6))
  (op_Encode.b7 R3 Q l_a l_n l_c b_a b_n b_c o t7_a t7_n t7_c t8 t9 w0_6))
  (op_Encode.b7 R3 Q l_a l_n l_c b_a b_n b_c o t7_a t7_n t7_c t8 t9 w0_6)))
  (Q b_a b_n b_c 0 w)
def op_Encode.b3 (Q : Option Addr → Nat → Nat → Int → World → Prop) : Nat → Option Addr → Nat → Nat → Option Addr → Nat → Nat → Option Addr → Nat → Nat → Int → Int → World → Prop
  | 0, _, _, _, _, _, _, _, _, _, _, _, _ => False
  | k + 1, l_a, l_n, l_c, b_a, b_n, b_c, t7_a, t7_n, t7_c, t8, t9, w => op_Encode.s3 Q (op_Encode.b3 Q k) l_a l_n l_c b_a b_n b_c t7_a t7_n t7_c t8 t9 w
def op_Encode.sh (l_a : Option Addr) (l_n : Nat) (l_c : Nat) (w : World) (Q : Option Addr → Nat → Nat → Int → World → Prop) : Prop :=
  ∃ k', op_Encode.b3 Q k' l_a l_n l_c none 0 0 l_a l_n l_c (l_n : Int) 0 w
noncomputable def op_Encode.scr : Scrs := []
def op_Encode.R (Q : Option Addr → Nat → Nat → Int → World → Prop) (ρ : Env) (w : World) : Prop := evRes (cx 39) Go.Proofs.Try.f16.results.toList ρ w fun vs => op_Encode.qv Q (resV vs) w
def op_Encode.d3 (K : Option Addr → Nat → Nat → Option Addr → Nat → Nat → Option Addr → Nat → Nat → Int → Int → Prop) (ρ : Env) : Prop :=
  dS (ρ 0) fun l_a l_n l_c => dS (ρ 4) fun b_a b_n b_c => dS (ρ 7) fun t7_a t7_n t7_c => dI .i64 (ρ 8) fun t8 => dI .i64 (ρ 9) fun t9 => K l_a l_n l_c b_a b_n b_c t7_a t7_n t7_c t8 t9
theorem op_Encode.d3_elim {K : Option Addr → Nat → Nat → Option Addr → Nat → Nat → Option Addr → Nat → Nat → Int → Int → Prop} {ρ : Env} (h0 : op_Encode.d3 K ρ) : ∃ (l_a : Option Addr) (l_n : Nat) (l_c : Nat) (b_a : Option Addr) (b_n : Nat) (b_c : Nat) (t7_a : Option Addr) (t7_n : Nat) (t7_c : Nat) (t8 : Int) (t9 : Int), ρ 0 = .slice l_a l_n l_c ∧ ρ 4 = .slice b_a b_n b_c ∧ ρ 7 = .slice t7_a t7_n t7_c ∧ ρ 8 = .int .i64 t8 ∧ ρ 9 = .int .i64 t9 ∧ K l_a l_n l_c b_a b_n b_c t7_a t7_n t7_c t8 t9 := by
  obtain ⟨l_a, l_n, l_c, e0, h1⟩ := dS_elim h0
  obtain ⟨b_a, b_n, b_c, e4, h2⟩ := dS_elim h1
  obtain ⟨t7_a, t7_n, t7_c, e7, h3⟩ := dS_elim h2
  obtain ⟨t8, e8, h4⟩ := dI_elim h3
  obtain ⟨t9, e9, h5⟩ := dI_elim h4
  exact ⟨l_a, l_n, l_c, b_a, b_n, b_c, t7_a, t7_n, t7_c, t8, t9, e0, e4, e7, e8, e9, h5⟩
def op_Encode.d7 (K : Option Addr → Nat → Nat → Option Addr → Nat → Nat → Addr → Option Addr → Nat → Nat → Int → Int → Prop) (ρ : Env) : Prop :=
  dS (ρ 0) fun l_a l_n l_c => dS (ρ 4) fun b_a b_n b_c => dP (ρ 6) fun o_p => wA o_p fun o => dS (ρ 7) fun t7_a t7_n t7_c => dI .i64 (ρ 8) fun t8 => dI .i64 (ρ 9) fun t9 => K l_a l_n l_c b_a b_n b_c o t7_a t7_n t7_c t8 t9
theorem op_Encode.d7_elim {K : Option Addr → Nat → Nat → Option Addr → Nat → Nat → Addr → Option Addr → Nat → Nat → Int → Int → Prop} {ρ : Env} (h0 : op_Encode.d7 K ρ) : ∃ (l_a : Option Addr) (l_n : Nat) (l_c : Nat) (b_a : Option Addr) (b_n : Nat) (b_c : Nat) (o : Addr) (t7_a : Option Addr) (t7_n : Nat) (t7_c : Nat) (t8 : Int) (t9 : Int), ρ 0 = .slice l_a l_n l_c ∧ ρ 4 = .slice b_a b_n b_c ∧ ρ 6 = .pointer (some o) ∧ ρ 7 = .slice t7_a t7_n t7_c ∧ ρ 8 = .int .i64 t8 ∧ ρ 9 = .int .i64 t9 ∧ K l_a l_n l_c b_a b_n b_c o t7_a t7_n t7_c t8 t9 := by
  obtain ⟨l_a, l_n, l_c, e0, h1⟩ := dS_elim h0
  obtain ⟨b_a, b_n, b_c, e4, h2⟩ := dS_elim h1
  obtain ⟨o_p, e6, h3⟩ := dP_elim h2
  obtain ⟨o, rfl, h4⟩ := wA_elim h3
  obtain ⟨t7_a, t7_n, t7_c, e7, h5⟩ := dS_elim h4
  obtain ⟨t8, e8, h6⟩ := dI_elim h5
  obtain ⟨t9, e9, h7⟩ := dI_elim h6
  exact ⟨l_a, l_n, l_c, b_a, b_n, b_c, o, t7_a, t7_n, t7_c, t8, t9, e0, e4, e6, e7, e8, e9, h7⟩
set_option maxRecDepth 100000 in
theorem op_Encode.f7 (P3 : Option Addr → Nat → Nat → Option Addr → Nat → Nat → Option Addr → Nat → Nat → Int → Int → World → Prop) (Q : Option Addr → Nat → Nat → Int → World → Prop) (HP3 : ∀ l_a l_n l_c b_a b_n b_c t7_a t7_n t7_c t8 t9 w, P3 l_a l_n l_c b_a b_n b_c t7_a t7_n t7_c t8 t9 w → ∀ ρ : Env, ρ 0 = .slice l_a l_n l_c → ρ 4 = .slice b_a b_n b_c → ρ 7 = .slice t7_a t7_n t7_c → ρ 8 = .int .i64 t8 → ρ 9 = .int .i64 t9 → Fin (cx 39) (todoOf Go.Proofs.Try.f16 3) ρ w (op_Encode.R Q)) : ∀ l_a l_n l_c b_a b_n b_c o t7_a t7_n t7_c t8 t9 w, op_Encode.b7 P3 Q l_a l_n l_c b_a b_n b_c o t7_a t7_n t7_c t8 t9 w → ∀ ρ : Env, ρ 0 = .slice l_a l_n l_c → ρ 4 = .slice b_a b_n b_c → ρ 6 = .pointer (some o) → ρ 7 = .slice t7_a t7_n t7_c → ρ 8 = .int .i64 t8 → ρ 9 = .int .i64 t9 → Fin (cx 39) (todoOf Go.Proofs.Try.f16 7) ρ w (op_Encode.R Q) := by
  intro l_a l_n l_c b_a b_n b_c o t7_a t7_n t7_c t8 t9 w h ρ e0 e4 e6 e7 e8 e9
  refine Fin.cut (ρ' := put (put (put (put (put (put (ρ) (some 0) (.slice l_a l_n l_c)) (some 4) (.slice b_a b_n b_c)) (some 6) (.pointer (some o))) (some 7) (.slice t7_a t7_n t7_c)) (some 8) (.int .i64 t8)) (some 9) (.int .i64 t9)) ?_ (by rw [put_id e0, put_id e4, put_id e6, put_id e7, put_id e8, put_id e9])
  refine evT_sound (ok 39) (drawD_sound (ok 39) op_Encode.scr) 600 (L := [(3, fun ρ w => op_Encode.d3 (fun l_a l_n l_c b_a b_n b_c t7_a t7_n t7_c t8 t9 => P3 l_a l_n l_c b_a b_n b_c t7_a t7_n t7_c t8 t9 w) ρ)]) (leaf_of (fn := Go.Proofs.Try.f16) [3] (by kernel_rfl) ⟨fun ρ w h => by obtain ⟨l_a, l_n, l_c, b_a, b_n, b_c, t7_a, t7_n, t7_c, t8, t9, e0, e4, e7, e8, e9, h⟩ := op_Encode.d3_elim (ρ := ρ) h; exact HP3 l_a l_n l_c b_a b_n b_c t7_a t7_n t7_c t8 t9 w h ρ e0 e4 e7 e8 e9, trivial⟩) (castK h (by kernel_rfl))
set_option maxRecDepth 100000 in
theorem op_Encode.f3 (Q : Option Addr → Nat → Nat → Int → World → Prop) : ∀ k l_a l_n l_c b_a b_n b_c t7_a t7_n t7_c t8 t9 w, op_Encode.b3 Q k l_a l_n l_c b_a b_n b_c t7_a t7_n t7_c t8 t9 w → ∀ ρ : Env, ρ 0 = .slice l_a l_n l_c → ρ 4 = .slice b_a b_n b_c → ρ 7 = .slice t7_a t7_n t7_c → ρ 8 = .int .i64 t8 → ρ 9 = .int .i64 t9 → Fin (cx 39) (todoOf Go.Proofs.Try.f16 3) ρ w (op_Encode.R Q) := by
  intro k
  induction k with
  | zero => intro l_a l_n l_c b_a b_n b_c t7_a t7_n t7_c t8 t9 w h; exact h.elim
  | succ k ih =>
    intro l_a l_n l_c b_a b_n b_c t7_a t7_n t7_c t8 t9 w h ρ e0 e4 e7 e8 e9
    have h : op_Encode.s3 Q (op_Encode.b3 Q k) l_a l_n l_c b_a b_n b_c t7_a t7_n t7_c t8 t9 w := h
    refine Fin.cut (ρ' := put (put (put (put (put (ρ) (some 0) (.slice l_a l_n l_c)) (some 4) (.slice b_a b_n b_c)) (some 7) (.slice t7_a t7_n t7_c)) (some 8) (.int .i64 t8)) (some 9) (.int .i64 t9)) ?_ (by rw [put_id e0, put_id e4, put_id e7, put_id e8, put_id e9])
    refine evT_sound (ok 39) (drawD_sound (ok 39) op_Encode.scr) 600 (L := [(7, fun ρ w => op_Encode.d7 (fun l_a l_n l_c b_a b_n b_c o t7_a t7_n t7_c t8 t9 => op_Encode.b7 (op_Encode.b3 Q k) Q l_a l_n l_c b_a b_n b_c o t7_a t7_n t7_c t8 t9 w) ρ)]) (leaf_of (fn := Go.Proofs.Try.f16) [7] (by kernel_rfl) ⟨fun ρ w h => by obtain ⟨l_a, l_n, l_c, b_a, b_n, b_c, o, t7_a, t7_n, t7_c, t8, t9, e0, e4, e6, e7, e8, e9, h⟩ := op_Encode.d7_elim (ρ := ρ) h; exact op_Encode.f7 (op_Encode.b3 Q k) Q ih l_a l_n l_c b_a b_n b_c o t7_a t7_n t7_c t8 t9 w h ρ e0 e4 e6 e7 e8 e9, trivial⟩) (castK h (by kernel_rfl))
set_option maxRecDepth 100000 in
theorem op_Encode.body (l_a : Option Addr) (l_n : Nat) (l_c : Nat) (w : World) (Q : Option Addr → Nat → Nat → Int → World → Prop) (h : op_Encode.sh l_a l_n l_c w Q) : op_Encode.call l_a l_n l_c w Q := by
  refine call_fn (ok 39) (fn := Go.Proofs.Try.f16) (args := [.slice l_a l_n l_c]) (K := op_Encode.qv Q) Go.Proofs.Try.func16 (by kernel_rfl) (by kernel_rfl) (by kernel_rfl) ?_
  refine evT_sound (ok 39) (drawD_sound (ok 39) op_Encode.scr) 600 (L := [(3, fun ρ w => op_Encode.d3 (fun l_a l_n l_c b_a b_n b_c t7_a t7_n t7_c t8 t9 => ∃ k', op_Encode.b3 Q k' l_a l_n l_c b_a b_n b_c t7_a t7_n t7_c t8 t9 w) ρ)]) (leaf_of (fn := Go.Proofs.Try.f16) [3] (by kernel_rfl) ⟨fun ρ w h => by obtain ⟨l_a, l_n, l_c, b_a, b_n, b_c, t7_a, t7_n, t7_c, t8, t9, e0, e4, e7, e8, e9, h⟩ := op_Encode.d3_elim (ρ := ρ) h; obtain ⟨k', h⟩ := h; exact op_Encode.f3 Q k' l_a l_n l_c b_a b_n b_c t7_a t7_n t7_c t8 t9 w h ρ e0 e4 e7 e8 e9, trivial⟩) (castK h (by kernel_rfl))
/-! ### 36 herdsman/herdsmanref26.four -/
def herdsmanref26_four.sh (n : Int) (w : World) (Q : Option Addr → Nat → Nat → World → Prop) : Prop :=
  NNg 8 <|
  NNg 16 <|
  NNg 24 <|
  Bx [.int .u8 (IntKind.wrap .u8 n), .int .u8 (IntKind.wrap .u8 (ishr .i64 n 8)), .int .u8 (IntKind.wrap .u8 (ishr .i64 n 16)), .int .u8 (IntKind.wrap .u8 (ishr .i64 n 24))] 5 w fun p14_s w0_1 =>
  Q (some p14_s) 4 4 w0_1
noncomputable def herdsmanref26_four.scr : Scrs := []
def herdsmanref26_four.R (Q : Option Addr → Nat → Nat → World → Prop) (ρ : Env) (w : World) : Prop := evRes (cx 15) Go.Proofs.Try.f36.results.toList ρ w fun vs => herdsmanref26_four.qv Q (resV vs) w
set_option maxRecDepth 100000 in
theorem herdsmanref26_four.body (n : Int) (w : World) (Q : Option Addr → Nat → Nat → World → Prop) (h : herdsmanref26_four.sh n w Q) : herdsmanref26_four.call n w Q := by
  refine call_fn (ok 15) (fn := Go.Proofs.Try.f36) (args := [.int .i64 n]) (K := herdsmanref26_four.qv Q) Go.Proofs.Try.func36 (by kernel_rfl) (by kernel_rfl) (by kernel_rfl) ?_
  refine evT_sound (ok 15) (drawD_sound (ok 15) herdsmanref26_four.scr) 600 (L := []) (leaf_of (fn := Go.Proofs.Try.f36) [] (by kernel_rfl) trivial) (castK h (by kernel_rfl))
/-! ### 28 herdsman/herdsmanref26.Bytes -/
def herdsmanref26_Bytes.b14 (Q : Option Addr → Nat → Nat → World → Prop) (o : Addr) (b_a : Option Addr) (b_n : Nat) (b_c : Nat) (w : World) : Prop :=
  LdI .i64 (o.add 1) w.drew fun x52 =>
  LdI .i64 (o.add 2) w.drew fun x56 =>
  herdsmanref26_four.call x52 w.drew fun r53_a r53_n r53_c w0_1 =>
  w0_1.cell? (o.add 2) = some (.int .i64 x56) ∧
  App P #[22, 22] 22 (.slice b_a b_n b_c) (.slice r53_a r53_n r53_c) w0_1 fun r54_a r54_n r54_c w0_2 =>
  w0_2.cell? (o.add 2) = some (.int .i64 x56) ∧
  herdsmanref26_four.call x56 w0_2 fun r57_a r57_n r57_c w0_3 =>
  App P #[22, 22] 22 (.slice r54_a r54_n r54_c) (.slice r57_a r57_n r57_c) w0_3 fun r58_a r58_n r58_c w0_4 =>
  Q r58_a r58_n r58_c w0_4
def herdsmanref26_Bytes.sh (o_Kind : Int) (o_A : Int) (o_B : Int) (o_Map_a : Option Addr) (o_Map_n : Nat) (o_Map_c : Nat) (w : World) (Q : Option Addr → Nat → Nat → World → Prop) : Prop :=
  Bx [.int .i64 o_Kind, .int .i64 o_A, .int .i64 o_B, .slice o_Map_a o_Map_n o_Map_c] 30 w fun o_b w0_1 =>
  LdI .i64 o_b w0_1 fun x5 =>
  Bx [.int .u8 (IntKind.wrap .u8 x5)] 5 w0_1 fun p7_s w0_2 =>
  LdI .i64 o_b w0_2 fun x9 =>
  cond (x9 == 0)
  (LdI .i64 (o_b.add 1) w0_2 fun x13 =>
  cond (x13 == (-1))
  (Bx [] 5 w0_2 fun p15_s w0_3 =>
  LdS (o_b.add 3) w0_3 fun x17_a x17_n x17_c =>
  App P #[22, 22] 22 (.slice (some p15_s) 0 0) (.slice x17_a x17_n x17_c) w0_3 fun r18_a r18_n r18_c w0_4 =>
  Q r18_a r18_n r18_c w0_4)
  (LdI .i64 (o_b.add 1) w0_2 fun x20 =>
  Bx [.int .u8 (IntKind.wrap .u8 x20)] 5 w0_2 fun p22_s w0_5 =>
  Q (some p22_s) 1 1 w0_5))
  (cond (x9 == 1)
  (LdS (o_b.add 3) w0_2.drew fun x27_a x27_n x27_c =>
  LdS (o_b.add 3) w0_2.drew fun x32_a x32_n x32_c =>
  herdsmanref26_four.call (x27_n : Int) w0_2.drew fun r29_a r29_n r29_c w0_6 =>
  w0_6.cell? (o_b.add 3) = some (.slice x32_a x32_n x32_c) ∧
  App P #[22, 22] 22 (.slice (some p7_s) 1 1) (.slice r29_a r29_n r29_c) w0_6 fun r30_a r30_n r30_c w0_7 =>
  w0_7.cell? (o_b.add 3) = some (.slice x32_a x32_n x32_c) ∧
  App P #[22, 22] 22 (.slice r30_a r30_n r30_c) (.slice x32_a x32_n x32_c) w0_7 fun r33_a r33_n r33_c w0_8 =>
  Q r33_a r33_n r33_c w0_8)
  (cond (x9 == 2)
  (LdI .i64 (o_b.add 1) w0_2.drew fun x38 =>
  LdI .i64 (o_b.add 2) w0_2.drew fun x42 =>
  (herdsmanref26_four.call x38 w0_2.drew fun r39_a r39_n r39_c w0_9 =>
  w0_9.cell? (o_b.add 2) = some (.int .i64 x42) ∧
  (App P #[22, 22] 22 (.slice (some p7_s) 1 1) (.slice r39_a r39_n r39_c) w0_9 fun r40_a r40_n r40_c w0_10 =>
  w0_10.cell? (o_b.add 2) = some (.int .i64 x42) ∧
  Bx [.int .u8 (IntKind.wrap .u8 x42)] 5 w0_10 fun p44_s w0_11 =>
  w0_11.cell? (o_b.add 1) = some (.int .i64 x38) ∧
  App P #[22, 22] 22 (.slice r40_a r40_n r40_c) (.slice (some p44_s) 1 1) w0_11 fun r45_a r45_n r45_c w0_12 =>
  Q r45_a r45_n r45_c w0_12) ∧
  (Bx [.int .u8 (IntKind.wrap .u8 x42)] 5 w0_9 fun p44_s_1 w0_13 =>
  w0_13.cell? (o_b.add 1) = some (.int .i64 x38) ∧
  App P #[22, 22] 22 (.slice (some p7_s) 1 1) (.slice r39_a r39_n r39_c) w0_13 fun r40_a_1 r40_n_1 r40_c_1 w0_14 =>
  w0_14.cell? (o_b.add 2) = some (.int .i64 x42) ∧
  App P #[22, 22] 22 (.slice r40_a_1 r40_n_1 r40_c_1) (.slice (some p44_s_1) 1 1) w0_14 fun r45_a_1 r45_n_1 r45_c_1 w0_15 =>
  Q r45_a_1 r45_n_1 r45_c_1 w0_15)) ∧
  (Bx [.int .u8 (IntKind.wrap .u8 x42)] 5 w0_2.drew fun p44_s_2 w0_16 =>
  w0_16.cell? (o_b.add 1) = some (.int .i64 x38) ∧
  herdsmanref26_four.call x38 w0_16 fun r39_a_1 r39_n_1 r39_c_1 w0_17 =>
  w0_17.cell? (o_b.add 2) = some (.int .i64 x42) ∧
  App P #[22, 22] 22 (.slice (some p7_s) 1 1) (.slice r39_a_1 r39_n_1 r39_c_1) w0_17 fun r40_a_2 r40_n_2 r40_c_2 w0_18 =>
  w0_18.cell? (o_b.add 2) = some (.int .i64 x42) ∧
  App P #[22, 22] 22 (.slice r40_a_2 r40_n_2 r40_c_2) (.slice (some p44_s_2) 1 1) w0_18 fun r45_a_2 r45_n_2 r45_c_2 w0_19 =>
  Q r45_a_2 r45_n_2 r45_c_2 w0_19))
  (cond (x9 == 3)
  (herdsmanref26_Bytes.b14 Q o_b (some p7_s) 1 1 w0_2)
  (cond (x9 == 4)
  (herdsmanref26_Bytes.b14 Q o_b (some p7_s) 1 1 w0_2)
  (cond (x9 == 6)
  (herdsmanref26_Bytes.b14 Q o_b (some p7_s) 1 1 w0_2)
  (cond (x9 == 5)
  (LdI .i64 (o_b.add 1) w0_2 fun x63 =>
  herdsmanref26_four.call x63 w0_2 fun r64_a r64_n r64_c w0_20 =>
  App P #[22, 22] 22 (.slice (some p7_s) 1 1) (.slice r64_a r64_n r64_c) w0_20 fun r65_a r65_n r65_c w0_21 =>
  Q r65_a r65_n r65_c w0_21)
  (Q (some p7_s) 1 1 w0_2)))))))
noncomputable def herdsmanref26_Bytes.scr : Scrs := [(8, .op 0 (.op 1 (.op 2 (.op 3 (.op 6 (.op 7 (.op 4 (.op 5 (.op 8 (.op 9 .done)))))))))), (10, .op 0 (.op 1 (.op 2 (.op 5 (.op 6 (.op 7 (.br (.op 3 (.br (.op 4 (.op 8 (.op 9 (.op 10 .done)))) (.op 8 (.op 4 (.op 9 (.op 10 .done)))))) (.op 8 (.op 3 (.op 4 (.op 9 (.op 10 .done)))))))))))), (14, .op 0 (.op 1 (.op 2 (.op 5 (.op 6 (.op 3 (.op 4 (.op 7 (.op 8 (.op 9 .done))))))))))]
def herdsmanref26_Bytes.R (Q : Option Addr → Nat → Nat → World → Prop) (ρ : Env) (w : World) : Prop := evRes (cx 67) Go.Proofs.Try.f28.results.toList ρ w fun vs => herdsmanref26_Bytes.qv Q (resV vs) w
def herdsmanref26_Bytes.d14 (K : Addr → Option Addr → Nat → Nat → Prop) (ρ : Env) : Prop :=
  dP (ρ 1) fun o_p => wA o_p fun o => dS (ρ 3) fun b_a b_n b_c => K o b_a b_n b_c
theorem herdsmanref26_Bytes.d14_elim {K : Addr → Option Addr → Nat → Nat → Prop} {ρ : Env} (h0 : herdsmanref26_Bytes.d14 K ρ) : ∃ (o : Addr) (b_a : Option Addr) (b_n : Nat) (b_c : Nat), ρ 1 = .pointer (some o) ∧ ρ 3 = .slice b_a b_n b_c ∧ K o b_a b_n b_c := by
  obtain ⟨o_p, e1, h1⟩ := dP_elim h0
  obtain ⟨o, rfl, h2⟩ := wA_elim h1
  obtain ⟨b_a, b_n, b_c, e3, h3⟩ := dS_elim h2
  exact ⟨o, b_a, b_n, b_c, e1, e3, h3⟩
set_option maxRecDepth 100000 in
theorem herdsmanref26_Bytes.f14 (Q : Option Addr → Nat → Nat → World → Prop) : ∀ o b_a b_n b_c w, herdsmanref26_Bytes.b14 Q o b_a b_n b_c w → ∀ ρ : Env, ρ 1 = .pointer (some o) → ρ 3 = .slice b_a b_n b_c → Fin (cx 67) (todoOf Go.Proofs.Try.f28 14) ρ w (herdsmanref26_Bytes.R Q) := by
  intro o b_a b_n b_c w h ρ e1 e3
  refine Fin.cut (ρ' := put (put (ρ) (some 1) (.pointer (some o))) (some 3) (.slice b_a b_n b_c)) ?_ (by rw [put_id e1, put_id e3])
  refine evT_sound (ok 67) (drawD_sound (ok 67) herdsmanref26_Bytes.scr) 600 (L := []) (leaf_of (fn := Go.Proofs.Try.f28) [] (by kernel_rfl) trivial) (castK h (by kernel_rfl))
set_option maxRecDepth 100000 in
theorem herdsmanref26_Bytes.body (o_Kind : Int) (o_A : Int) (o_B : Int) (o_Map_a : Option Addr) (o_Map_n : Nat) (o_Map_c : Nat) (w : World) (Q : Option Addr → Nat → Nat → World → Prop) (h : herdsmanref26_Bytes.sh o_Kind o_A o_B o_Map_a o_Map_n o_Map_c w Q) : herdsmanref26_Bytes.call o_Kind o_A o_B o_Map_a o_Map_n o_Map_c w Q := by
  refine call_fn (ok 67) (fn := Go.Proofs.Try.f28) (args := [.agg #[.int .i64 o_Kind, .int .i64 o_A, .int .i64 o_B, .slice o_Map_a o_Map_n o_Map_c]]) (K := herdsmanref26_Bytes.qv Q) Go.Proofs.Try.func28 (by kernel_rfl) (by kernel_rfl) (by kernel_rfl) ?_
  refine evT_sound (ok 67) (drawD_sound (ok 67) herdsmanref26_Bytes.scr) 600 (L := [(14, fun ρ w => herdsmanref26_Bytes.d14 (fun o b_a b_n b_c => herdsmanref26_Bytes.b14 Q o b_a b_n b_c w) ρ)]) (leaf_of (fn := Go.Proofs.Try.f28) [14, 14, 14] (by kernel_rfl) ⟨fun ρ w h => by obtain ⟨o, b_a, b_n, b_c, e1, e3, h⟩ := herdsmanref26_Bytes.d14_elim (ρ := ρ) h; exact herdsmanref26_Bytes.f14 Q o b_a b_n b_c w h ρ e1 e3, trivial⟩) (castK h (by kernel_rfl))
/-! ### 17 herdsman/herdsmanref26.Encode -/
def herdsmanref26_Encode.b7 (P3 : Option Addr → Nat → Nat → Option Addr → Nat → Nat → Int → World → Prop) (Q : Option Addr → Nat → Nat → Bool → World → Prop) (l_a : Option Addr) (l_n : Nat) (l_c : Nat) (b_a : Option Addr) (b_n : Nat) (b_c : Nat) (i : Int) (w : World) : Prop :=
  InB i l_n <|
  wA l_a fun p =>
  LdI .i64 ((p.add (i.toNat * 4)).add 0) w fun x45_Kind =>
  LdI .i64 ((p.add (i.toNat * 4)).add 1) w fun x45_A =>
  LdI .i64 ((p.add (i.toNat * 4)).add 2) w fun x45_B =>
  LdS ((p.add (i.toNat * 4)).add 3) w fun x45_Map_a x45_Map_n x45_Map_c =>
  herdsmanref26_Bytes.call x45_Kind x45_A x45_B x45_Map_a x45_Map_n x45_Map_c w fun r46_a r46_n r46_c w0_1 =>
  App P #[22, 22] 22 (.slice b_a b_n b_c) (.slice r46_a r46_n r46_c) w0_1 fun r47_a r47_n r47_c w0_2 =>
  P3 l_a l_n l_c r47_a r47_n r47_c (IntKind.wrap .i64 (i + 1)) w0_2
def herdsmanref26_Encode.s3 (Q : Option Addr → Nat → Nat → Bool → World → Prop) (R3 : Option Addr → Nat → Nat → Option Addr → Nat → Nat → Int → World → Prop) (l_a : Option Addr) (l_n : Nat) (l_c : Nat) (b_a : Option Addr) (b_n : Nat) (b_c : Nat) (i : Int) (w : World) : Prop :=
  cond (decide (i < (l_n : Int)))
  (InB i l_n <|
  wA l_a fun p =>
  LdI .i64 ((p.add (i.toNat * 4)).add 0) w fun x15_Kind =>
  LdI .i64 ((p.add (i.toNat * 4)).add 1) w fun x15_A =>
  LdI .i64 ((p.add (i.toNat * 4)).add 2) w fun x15_B =>
  LdS ((p.add (i.toNat * 4)).add 3) w fun x15_Map_a x15_Map_n x15_Map_c =>
  herdsmanref26_May.call x15_Kind x15_A x15_B x15_Map_a x15_Map_n x15_Map_c w fun r16 w0_1 =>
  cond (!r16)
  (Q none 0 0 false w0_1)
  (InB i l_n <|
  wA l_a fun p_1 =>
  LdI .i64 (p_1.add (i.toNat * 4)) w0_1 fun x23 =>
  cond (x23 == 0)
  (InB i l_n <|
  wA l_a fun p_2 =>
  LdI .i64 ((p_2.add (i.toNat * 4)).add 1) w0_1 fun x30 =>
  cond (x30 == (-1))
  (cond (decide (i < (IntKind.wrap .i64 ((l_n : Int) - 1))))
  (Q none 0 0 false w0_1)
  (herdsmanref26_Encode.b7 R3 Q l_a l_n l_c b_a b_n b_c i w0_1))
  (herdsmanref26_Encode.b7 R3 Q l_a l_n l_c b_a b_n b_c i w0_1))
  (herdsmanref26_Encode.b7 R3 Q l_a l_n l_c b_a b_n b_c i w0_1)))
  (Q b_a b_n b_c true w)
def herdsmanref26_Encode.b3 (Q : Option Addr → Nat → Nat → Bool → World → Prop) : Nat → Option Addr → Nat → Nat → Option Addr → Nat → Nat → Int → World → Prop
  | 0, _, _, _, _, _, _, _, _ => False
  | k + 1, l_a, l_n, l_c, b_a, b_n, b_c, i, w => herdsmanref26_Encode.s3 Q (herdsmanref26_Encode.b3 Q k) l_a l_n l_c b_a b_n b_c i w
def herdsmanref26_Encode.sh (l_a : Option Addr) (l_n : Nat) (l_c : Nat) (w : World) (Q : Option Addr → Nat → Nat → Bool → World → Prop) : Prop :=
  ∃ k', herdsmanref26_Encode.b3 Q k' l_a l_n l_c none 0 0 0 w
noncomputable def herdsmanref26_Encode.scr : Scrs := []
def herdsmanref26_Encode.R (Q : Option Addr → Nat → Nat → Bool → World → Prop) (ρ : Env) (w : World) : Prop := evRes (cx 49) Go.Proofs.Try.f17.results.toList ρ w fun vs => herdsmanref26_Encode.qv Q (resV vs) w
def herdsmanref26_Encode.d3 (K : Option Addr → Nat → Nat → Option Addr → Nat → Nat → Int → Prop) (ρ : Env) : Prop :=
  dS (ρ 0) fun l_a l_n l_c => dS (ρ 4) fun b_a b_n b_c => dI .i64 (ρ 5) fun i => K l_a l_n l_c b_a b_n b_c i
theorem herdsmanref26_Encode.d3_elim {K : Option Addr → Nat → Nat → Option Addr → Nat → Nat → Int → Prop} {ρ : Env} (h0 : herdsmanref26_Encode.d3 K ρ) : ∃ (l_a : Option Addr) (l_n : Nat) (l_c : Nat) (b_a : Option Addr) (b_n : Nat) (b_c : Nat) (i : Int), ρ 0 = .slice l_a l_n l_c ∧ ρ 4 = .slice b_a b_n b_c ∧ ρ 5 = .int .i64 i ∧ K l_a l_n l_c b_a b_n b_c i := by
  obtain ⟨l_a, l_n, l_c, e0, h1⟩ := dS_elim h0
  obtain ⟨b_a, b_n, b_c, e4, h2⟩ := dS_elim h1
  obtain ⟨i, e5, h3⟩ := dI_elim h2
  exact ⟨l_a, l_n, l_c, b_a, b_n, b_c, i, e0, e4, e5, h3⟩
def herdsmanref26_Encode.d7 (K : Option Addr → Nat → Nat → Option Addr → Nat → Nat → Int → Prop) (ρ : Env) : Prop :=
  dS (ρ 0) fun l_a l_n l_c => dS (ρ 4) fun b_a b_n b_c => dI .i64 (ρ 5) fun i => K l_a l_n l_c b_a b_n b_c i
theorem herdsmanref26_Encode.d7_elim {K : Option Addr → Nat → Nat → Option Addr → Nat → Nat → Int → Prop} {ρ : Env} (h0 : herdsmanref26_Encode.d7 K ρ) : ∃ (l_a : Option Addr) (l_n : Nat) (l_c : Nat) (b_a : Option Addr) (b_n : Nat) (b_c : Nat) (i : Int), ρ 0 = .slice l_a l_n l_c ∧ ρ 4 = .slice b_a b_n b_c ∧ ρ 5 = .int .i64 i ∧ K l_a l_n l_c b_a b_n b_c i := by
  obtain ⟨l_a, l_n, l_c, e0, h1⟩ := dS_elim h0
  obtain ⟨b_a, b_n, b_c, e4, h2⟩ := dS_elim h1
  obtain ⟨i, e5, h3⟩ := dI_elim h2
  exact ⟨l_a, l_n, l_c, b_a, b_n, b_c, i, e0, e4, e5, h3⟩
set_option maxRecDepth 100000 in
theorem herdsmanref26_Encode.f7 (P3 : Option Addr → Nat → Nat → Option Addr → Nat → Nat → Int → World → Prop) (Q : Option Addr → Nat → Nat → Bool → World → Prop) (HP3 : ∀ l_a l_n l_c b_a b_n b_c i w, P3 l_a l_n l_c b_a b_n b_c i w → ∀ ρ : Env, ρ 0 = .slice l_a l_n l_c → ρ 4 = .slice b_a b_n b_c → ρ 5 = .int .i64 i → Fin (cx 49) (todoOf Go.Proofs.Try.f17 3) ρ w (herdsmanref26_Encode.R Q)) : ∀ l_a l_n l_c b_a b_n b_c i w, herdsmanref26_Encode.b7 P3 Q l_a l_n l_c b_a b_n b_c i w → ∀ ρ : Env, ρ 0 = .slice l_a l_n l_c → ρ 4 = .slice b_a b_n b_c → ρ 5 = .int .i64 i → Fin (cx 49) (todoOf Go.Proofs.Try.f17 7) ρ w (herdsmanref26_Encode.R Q) := by
  intro l_a l_n l_c b_a b_n b_c i w h ρ e0 e4 e5
  refine Fin.cut (ρ' := put (put (put (ρ) (some 0) (.slice l_a l_n l_c)) (some 4) (.slice b_a b_n b_c)) (some 5) (.int .i64 i)) ?_ (by rw [put_id e0, put_id e4, put_id e5])
  refine evT_sound (ok 49) (drawD_sound (ok 49) herdsmanref26_Encode.scr) 600 (L := [(3, fun ρ w => herdsmanref26_Encode.d3 (fun l_a l_n l_c b_a b_n b_c i => P3 l_a l_n l_c b_a b_n b_c i w) ρ)]) (leaf_of (fn := Go.Proofs.Try.f17) [3] (by kernel_rfl) ⟨fun ρ w h => by obtain ⟨l_a, l_n, l_c, b_a, b_n, b_c, i, e0, e4, e5, h⟩ := herdsmanref26_Encode.d3_elim (ρ := ρ) h; exact HP3 l_a l_n l_c b_a b_n b_c i w h ρ e0 e4 e5, trivial⟩) (castK h (by kernel_rfl))
set_option maxRecDepth 100000 in
theorem herdsmanref26_Encode.f3 (Q : Option Addr → Nat → Nat → Bool → World → Prop) : ∀ k l_a l_n l_c b_a b_n b_c i w, herdsmanref26_Encode.b3 Q k l_a l_n l_c b_a b_n b_c i w → ∀ ρ : Env, ρ 0 = .slice l_a l_n l_c → ρ 4 = .slice b_a b_n b_c → ρ 5 = .int .i64 i → Fin (cx 49) (todoOf Go.Proofs.Try.f17 3) ρ w (herdsmanref26_Encode.R Q) := by
  intro k
  induction k with
  | zero => intro l_a l_n l_c b_a b_n b_c i w h; exact h.elim
  | succ k ih =>
    intro l_a l_n l_c b_a b_n b_c i w h ρ e0 e4 e5
    have h : herdsmanref26_Encode.s3 Q (herdsmanref26_Encode.b3 Q k) l_a l_n l_c b_a b_n b_c i w := h
    refine Fin.cut (ρ' := put (put (put (ρ) (some 0) (.slice l_a l_n l_c)) (some 4) (.slice b_a b_n b_c)) (some 5) (.int .i64 i)) ?_ (by rw [put_id e0, put_id e4, put_id e5])
    refine evT_sound (ok 49) (drawD_sound (ok 49) herdsmanref26_Encode.scr) 600 (L := [(7, fun ρ w => herdsmanref26_Encode.d7 (fun l_a l_n l_c b_a b_n b_c i => herdsmanref26_Encode.b7 (herdsmanref26_Encode.b3 Q k) Q l_a l_n l_c b_a b_n b_c i w) ρ)]) (leaf_of (fn := Go.Proofs.Try.f17) [7] (by kernel_rfl) ⟨fun ρ w h => by obtain ⟨l_a, l_n, l_c, b_a, b_n, b_c, i, e0, e4, e5, h⟩ := herdsmanref26_Encode.d7_elim (ρ := ρ) h; exact herdsmanref26_Encode.f7 (herdsmanref26_Encode.b3 Q k) Q ih l_a l_n l_c b_a b_n b_c i w h ρ e0 e4 e5, trivial⟩) (castK h (by kernel_rfl))
set_option maxRecDepth 100000 in
theorem herdsmanref26_Encode.body (l_a : Option Addr) (l_n : Nat) (l_c : Nat) (w : World) (Q : Option Addr → Nat → Nat → Bool → World → Prop) (h : herdsmanref26_Encode.sh l_a l_n l_c w Q) : herdsmanref26_Encode.call l_a l_n l_c w Q := by
  refine call_fn (ok 49) (fn := Go.Proofs.Try.f17) (args := [.slice l_a l_n l_c]) (K := herdsmanref26_Encode.qv Q) Go.Proofs.Try.func17 (by kernel_rfl) (by kernel_rfl) (by kernel_rfl) ?_
  refine evT_sound (ok 49) (drawD_sound (ok 49) herdsmanref26_Encode.scr) 600 (L := [(3, fun ρ w => herdsmanref26_Encode.d3 (fun l_a l_n l_c b_a b_n b_c i => ∃ k', herdsmanref26_Encode.b3 Q k' l_a l_n l_c b_a b_n b_c i w) ρ)]) (leaf_of (fn := Go.Proofs.Try.f17) [3] (by kernel_rfl) ⟨fun ρ w h => by obtain ⟨l_a, l_n, l_c, b_a, b_n, b_c, i, e0, e4, e5, h⟩ := herdsmanref26_Encode.d3_elim (ρ := ρ) h; obtain ⟨k', h⟩ := h; exact herdsmanref26_Encode.f3 Q k' l_a l_n l_c b_a b_n b_c i w h ρ e0 e4 e5, trivial⟩) (castK h (by kernel_rfl))
/-! ### 4 herdsman/herdsmanlaw26.OpAsks -/
def herdsmanlaw26_OpAsks.b21 (P3 : Option Addr → Nat → Nat → Bool → Option Addr → Nat → Nat → Int → World → Prop) (Q : Bool → World → Prop) (l_a : Option Addr) (l_n : Nat) (l_c : Nat) (raw : Bool) (x_a : Option Addr) (x_n : Nat) (x_c : Nat) (i : Int) (o : Addr) (w : World) : Prop :=
  LdI .i64 (o.add 0) w fun x109_Kind =>
  LdI .i64 (o.add 1) w fun x109_A =>
  LdI .i64 (o.add 2) w fun x109_B =>
  LdS (o.add 3) w fun x109_Map_a x109_Map_n x109_Map_c =>
  Bx [.int .i64 x109_Kind, .int .i64 x109_A, .int .i64 x109_B, .slice x109_Map_a x109_Map_n x109_Map_c] 30 w fun p110_s w0_1 =>
  App P #[25, 25] 25 (.slice x_a x_n x_c) (.slice (some p110_s) 1 1) w0_1 fun r111_a r111_n r111_c w0_2 =>
  P3 l_a l_n l_c raw r111_a r111_n r111_c (IntKind.wrap .i64 (i + 1)) w0_2
def herdsmanlaw26_OpAsks.b18 (P3 : Option Addr → Nat → Nat → Bool → Option Addr → Nat → Nat → Int → World → Prop) (Q : Bool → World → Prop) (l_a : Option Addr) (l_n : Nat) (l_c : Nat) (raw : Bool) (x_a : Option Addr) (x_n : Nat) (x_c : Nat) (i : Int) (o : Addr) (w : World) : Prop :=
  LdI .i64 (o.add 0) w.drew fun x86_Kind =>
  LdI .i64 (o.add 1) w.drew fun x86_A =>
  LdI .i64 (o.add 2) w.drew fun x86_B =>
  LdS (o.add 3) w.drew fun x86_Map_a x86_Map_n x86_Map_c =>
  LdI .i64 (o.add 0) w.drew fun x88_Kind =>
  LdI .i64 (o.add 1) w.drew fun x88_A =>
  LdI .i64 (o.add 2) w.drew fun x88_B =>
  LdS (o.add 3) w.drew fun x88_Map_a x88_Map_n x88_Map_c =>
  op_May.call x86_Kind x86_A x86_B x86_Map_a x86_Map_n x86_Map_c w.drew fun r87 w0_1 =>
  w0_1.cell? (o.add 0) = some (.int .i64 x88_Kind) ∧
  w0_1.cell? (o.add 1) = some (.int .i64 x88_A) ∧
  w0_1.cell? (o.add 2) = some (.int .i64 x88_B) ∧
  w0_1.cell? (o.add 3) = some (.slice x88_Map_a x88_Map_n x88_Map_c) ∧
  herdsmanref26_May.call x88_Kind x88_A x88_B x88_Map_a x88_Map_n x88_Map_c w0_1 fun r89 w0_2 =>
  cond (!(r87 == r89))
  (Q false w0_2)
  (LdI .i64 o w0_2 fun x92 =>
  cond (x92 == 0)
  (herdsmanlaw26_OpAsks.b21 P3 Q l_a l_n l_c raw x_a x_n x_c i o w0_2)
  (LdI .i64 o w0_2 fun x96 =>
  cond (x96 == 1)
  (herdsmanlaw26_OpAsks.b21 P3 Q l_a l_n l_c raw x_a x_n x_c i o w0_2)
  (NZ 5 <|
  cond ((Int.tmod i 5) == 0)
  (herdsmanlaw26_OpAsks.b21 P3 Q l_a l_n l_c raw x_a x_n x_c i o w0_2)
  (LdI .i64 (o.add 0) w0_2 fun x105_Kind =>
  LdI .i64 (o.add 1) w0_2 fun x105_A =>
  LdI .i64 (o.add 2) w0_2 fun x105_B =>
  LdS (o.add 3) w0_2 fun x105_Map_a x105_Map_n x105_Map_c =>
  herdsmanref26_May.call x105_Kind x105_A x105_B x105_Map_a x105_Map_n x105_Map_c w0_2 fun r106 w0_3 =>
  cond r106
  (herdsmanlaw26_OpAsks.b21 P3 Q l_a l_n l_c raw x_a x_n x_c i o w0_3)
  (P3 l_a l_n l_c raw x_a x_n x_c (IntKind.wrap .i64 (i + 1)) w0_3)))))
def herdsmanlaw26_OpAsks.b17 (P3 : Option Addr → Nat → Nat → Bool → Option Addr → Nat → Nat → Int → World → Prop) (Q : Bool → World → Prop) (l_a : Option Addr) (l_n : Nat) (l_c : Nat) (raw : Bool) (x_a : Option Addr) (x_n : Nat) (x_c : Nat) (i : Int) (o : Addr) (w : World) : Prop :=
  St (o.add 2) (.int .i64 0) w fun w0_1 =>
  herdsmanlaw26_OpAsks.b18 P3 Q l_a l_n l_c raw x_a x_n x_c i o w0_1
def herdsmanlaw26_OpAsks.b16 (P3 : Option Addr → Nat → Nat → Bool → Option Addr → Nat → Nat → Int → World → Prop) (Q : Bool → World → Prop) (l_a : Option Addr) (l_n : Nat) (l_c : Nat) (raw : Bool) (x_a : Option Addr) (x_n : Nat) (x_c : Nat) (i : Int) (o : Addr) (w : World) : Prop :=
  LdI .i64 o w fun x78 =>
  cond (x78 == 5)
  (herdsmanlaw26_OpAsks.b17 P3 Q l_a l_n l_c raw x_a x_n x_c i o w)
  (LdI .i64 o w fun x82 =>
  cond (x82 == 0)
  (herdsmanlaw26_OpAsks.b17 P3 Q l_a l_n l_c raw x_a x_n x_c i o w)
  (herdsmanlaw26_OpAsks.b18 P3 Q l_a l_n l_c raw x_a x_n x_c i o w))
def herdsmanlaw26_OpAsks.b15 (P3 : Option Addr → Nat → Nat → Bool → Option Addr → Nat → Nat → Int → World → Prop) (Q : Bool → World → Prop) (l_a : Option Addr) (l_n : Nat) (l_c : Nat) (raw : Bool) (x_a : Option Addr) (x_n : Nat) (x_c : Nat) (i : Int) (o : Addr) (w : World) : Prop :=
  St (o.add 1) (.int .i64 0) w fun w0_1 =>
  St (o.add 2) (.int .i64 0) w0_1 fun w0_2 =>
  herdsmanlaw26_OpAsks.b16 P3 Q l_a l_n l_c raw x_a x_n x_c i o w0_2
def herdsmanlaw26_OpAsks.b14 (P3 : Option Addr → Nat → Nat → Bool → Option Addr → Nat → Nat → Int → World → Prop) (Q : Bool → World → Prop) (l_a : Option Addr) (l_n : Nat) (l_c : Nat) (raw : Bool) (x_a : Option Addr) (x_n : Nat) (x_c : Nat) (i : Int) (o : Addr) (w : World) : Prop :=
  LdI .i64 o w fun x68 =>
  cond (decide (x68 ≥ 7))
  (herdsmanlaw26_OpAsks.b15 P3 Q l_a l_n l_c raw x_a x_n x_c i o w)
  (LdI .i64 o w fun x72 =>
  cond (x72 == 1)
  (herdsmanlaw26_OpAsks.b15 P3 Q l_a l_n l_c raw x_a x_n x_c i o w)
  (herdsmanlaw26_OpAsks.b16 P3 Q l_a l_n l_c raw x_a x_n x_c i o w))
def herdsmanlaw26_OpAsks.b22 (Q : Bool → World → Prop) (x_a : Option Addr) (x_n : Nat) (x_c : Nat) (w : World) : Prop :=
  op_Encode.call x_a x_n x_c w fun r114_0_a r114_0_n r114_0_c r114_1 w0_1 =>
  herdsmanref26_Encode.call x_a x_n x_c w0_1 fun r119_0_a r119_0_n r119_0_c r119_1 w0_2 =>
  cond (!r119_1)
  (herdsmanlaw26_told.call w0_2 fun r124 w0_3 =>
  cond r124
  (cond (r114_1 == 1)
  (Q ((r114_0_n : Int) == 0) w0_3)
  (Q false w0_3))
  (Q false w0_3))
  (herdsmanlaw26_told.call w0_2 fun r134 w0_4 =>
  cond r134
  (cond (r114_1 == 0)
  (herdsmanref1_Bytes.call r114_0_a r114_0_n r114_0_c r119_0_a r119_0_n r119_0_c w0_4 fun r142 w0_5 =>
  Q r142 w0_5)
  (Q false w0_4))
  (Q false w0_4))
def herdsmanlaw26_OpAsks.s3 (Q : Bool → World → Prop) (R3 : Option Addr → Nat → Nat → Bool → Option Addr → Nat → Nat → Int → World → Prop) (l_a : Option Addr) (l_n : Nat) (l_c : Nat) (raw : Bool) (x_a : Option Addr) (x_n : Nat) (x_c : Nat) (i : Int) (w : World) : Prop :=
  cond (decide (i < (l_n : Int)))
  (cond (decide (i < 30))
  (InB i l_n <|
  wA l_a fun p =>
  LdS ((p.add (i.toNat * 4)).add 3) w fun x26_a x26_n x26_c =>
  cond (decide ((x26_n : Int) > 300))
  (herdsmanlaw26_told.call w fun r29 w0_1 =>
  Q r29 w0_1)
  (InB i l_n <|
  wA l_a fun p_1 =>
  LdI .i64 ((p_1.add (i.toNat * 4)).add 0) w fun x33_Kind =>
  LdI .i64 ((p_1.add (i.toNat * 4)).add 1) w fun x33_A =>
  LdI .i64 ((p_1.add (i.toNat * 4)).add 2) w fun x33_B =>
  LdS ((p_1.add (i.toNat * 4)).add 3) w fun x33_Map_a x33_Map_n x33_Map_c =>
  Al T 30 w fun o w0_2 =>
  St (o.add 0) (.int .i64 x33_Kind) w0_2 fun w0_3 =>
  St (o.add 1) (.int .i64 x33_A) w0_3 fun w0_4 =>
  St (o.add 2) (.int .i64 x33_B) w0_4 fun w0_5 =>
  St (o.add 3) (.slice x33_Map_a x33_Map_n x33_Map_c) w0_5 fun w0_6 =>
  Bx [] 5 w0_6 fun p34_s w0_7 =>
  InB i l_n <|
  wA l_a fun p_2 =>
  LdS ((p_2.add (i.toNat * 4)).add 3) w0_7 fun x39_a x39_n x39_c =>
  App P #[22, 22] 22 (.slice (some p34_s) 0 0) (.slice x39_a x39_n x39_c) w0_7 fun r40_a r40_n r40_c w0_8 =>
  St (o.add 3) (.slice r40_a r40_n r40_c) w0_8 fun w0_9 =>
  cond (!raw)
  (LdI .i64 o w0_9 fun x45 =>
  herdsmanref1_Within.call x45 0 8 w0_9 fun r46 w0_10 =>
  St o (.int .i64 r46) w0_10 fun w0_11 =>
  LdI .i64 (o.add 1) w0_11.drew fun x49 =>
  LdI .i64 (o.add 2) w0_11.drew fun x52 =>
  herdsmanref1_Within.call x49 (-1) 300 w0_11.drew fun r50 w0_12 =>
  w0_12.cell? (o.add 2) = some (.int .i64 x52) ∧
  herdsmanref1_Within.call x52 0 300 w0_12 fun r53 w0_13 =>
  St (o.add 1) (.int .i64 r50) w0_13 fun w0_14 =>
  St (o.add 2) (.int .i64 r53) w0_14 fun w0_15 =>
  LdI .i64 o w0_15 fun x57 =>
  cond (x57 != 1)
  (LdS (o.add 3) w0_15 fun x61_a x61_n x61_c =>
  NZ 4 <|
  cond ((Int.tmod (x61_n : Int) 4) != 0)
  (St (o.add 3) (.slice none 0 0) w0_15 fun w0_16 =>
  herdsmanlaw26_OpAsks.b14 R3 Q l_a l_n l_c raw x_a x_n x_c i o w0_16)
  (herdsmanlaw26_OpAsks.b14 R3 Q l_a l_n l_c raw x_a x_n x_c i o w0_15))
  (herdsmanlaw26_OpAsks.b14 R3 Q l_a l_n l_c raw x_a x_n x_c i o w0_15))
  (herdsmanlaw26_OpAsks.b18 R3 Q l_a l_n l_c raw x_a x_n x_c i o w0_9)))
  (herdsmanlaw26_OpAsks.b22 Q x_a x_n x_c w))
  (herdsmanlaw26_OpAsks.b22 Q x_a x_n x_c w)
def herdsmanlaw26_OpAsks.b3 (Q : Bool → World → Prop) : Nat → Option Addr → Nat → Nat → Bool → Option Addr → Nat → Nat → Int → World → Prop
  | 0, _, _, _, _, _, _, _, _, _ => False
  | k + 1, l_a, l_n, l_c, raw, x_a, x_n, x_c, i, w => herdsmanlaw26_OpAsks.s3 Q (herdsmanlaw26_OpAsks.b3 Q k) l_a l_n l_c raw x_a x_n x_c i w
def herdsmanlaw26_OpAsks.sh (l_a : Option Addr) (l_n : Nat) (l_c : Nat) (raw : Bool) (w : World) (Q : Bool → World → Prop) : Prop :=
  ∃ k', herdsmanlaw26_OpAsks.b3 Q k' l_a l_n l_c raw none 0 0 0 w
noncomputable def herdsmanlaw26_OpAsks.scr : Scrs := [(11, .op 0 (.op 1 (.op 3 (.op 4 (.op 2 (.op 6 (.op 5 (.op 7 (.op 8 (.op 9 .done)))))))))), (18, .op 0 (.op 2 (.op 1 (.op 3 (.op 4 .done)))))]
def herdsmanlaw26_OpAsks.R (Q : Bool → World → Prop) (ρ : Env) (w : World) : Prop := evRes (cx 144) Go.Proofs.Try.f4.results.toList ρ w fun vs => herdsmanlaw26_OpAsks.qv Q (resV vs) w
def herdsmanlaw26_OpAsks.d3 (K : Option Addr → Nat → Nat → Bool → Option Addr → Nat → Nat → Int → Prop) (ρ : Env) : Prop :=
  dS (ρ 0) fun l_a l_n l_c => dB (ρ 1) fun raw => dS (ρ 5) fun x_a x_n x_c => dI .i64 (ρ 6) fun i => K l_a l_n l_c raw x_a x_n x_c i
theorem herdsmanlaw26_OpAsks.d3_elim {K : Option Addr → Nat → Nat → Bool → Option Addr → Nat → Nat → Int → Prop} {ρ : Env} (h0 : herdsmanlaw26_OpAsks.d3 K ρ) : ∃ (l_a : Option Addr) (l_n : Nat) (l_c : Nat) (raw : Bool) (x_a : Option Addr) (x_n : Nat) (x_c : Nat) (i : Int), ρ 0 = .slice l_a l_n l_c ∧ ρ 1 = .bool raw ∧ ρ 5 = .slice x_a x_n x_c ∧ ρ 6 = .int .i64 i ∧ K l_a l_n l_c raw x_a x_n x_c i := by
  obtain ⟨l_a, l_n, l_c, e0, h1⟩ := dS_elim h0
  obtain ⟨raw, e1, h2⟩ := dB_elim h1
  obtain ⟨x_a, x_n, x_c, e5, h3⟩ := dS_elim h2
  obtain ⟨i, e6, h4⟩ := dI_elim h3
  exact ⟨l_a, l_n, l_c, raw, x_a, x_n, x_c, i, e0, e1, e5, e6, h4⟩
def herdsmanlaw26_OpAsks.d14 (K : Option Addr → Nat → Nat → Bool → Option Addr → Nat → Nat → Int → Addr → Prop) (ρ : Env) : Prop :=
  dS (ρ 0) fun l_a l_n l_c => dB (ρ 1) fun raw => dS (ρ 5) fun x_a x_n x_c => dI .i64 (ρ 6) fun i => dP (ρ 7) fun o_p => wA o_p fun o => K l_a l_n l_c raw x_a x_n x_c i o
theorem herdsmanlaw26_OpAsks.d14_elim {K : Option Addr → Nat → Nat → Bool → Option Addr → Nat → Nat → Int → Addr → Prop} {ρ : Env} (h0 : herdsmanlaw26_OpAsks.d14 K ρ) : ∃ (l_a : Option Addr) (l_n : Nat) (l_c : Nat) (raw : Bool) (x_a : Option Addr) (x_n : Nat) (x_c : Nat) (i : Int) (o : Addr), ρ 0 = .slice l_a l_n l_c ∧ ρ 1 = .bool raw ∧ ρ 5 = .slice x_a x_n x_c ∧ ρ 6 = .int .i64 i ∧ ρ 7 = .pointer (some o) ∧ K l_a l_n l_c raw x_a x_n x_c i o := by
  obtain ⟨l_a, l_n, l_c, e0, h1⟩ := dS_elim h0
  obtain ⟨raw, e1, h2⟩ := dB_elim h1
  obtain ⟨x_a, x_n, x_c, e5, h3⟩ := dS_elim h2
  obtain ⟨i, e6, h4⟩ := dI_elim h3
  obtain ⟨o_p, e7, h5⟩ := dP_elim h4
  obtain ⟨o, rfl, h6⟩ := wA_elim h5
  exact ⟨l_a, l_n, l_c, raw, x_a, x_n, x_c, i, o, e0, e1, e5, e6, e7, h6⟩
def herdsmanlaw26_OpAsks.d15 (K : Option Addr → Nat → Nat → Bool → Option Addr → Nat → Nat → Int → Addr → Prop) (ρ : Env) : Prop :=
  dS (ρ 0) fun l_a l_n l_c => dB (ρ 1) fun raw => dS (ρ 5) fun x_a x_n x_c => dI .i64 (ρ 6) fun i => dP (ρ 7) fun o_p => wA o_p fun o => K l_a l_n l_c raw x_a x_n x_c i o
theorem herdsmanlaw26_OpAsks.d15_elim {K : Option Addr → Nat → Nat → Bool → Option Addr → Nat → Nat → Int → Addr → Prop} {ρ : Env} (h0 : herdsmanlaw26_OpAsks.d15 K ρ) : ∃ (l_a : Option Addr) (l_n : Nat) (l_c : Nat) (raw : Bool) (x_a : Option Addr) (x_n : Nat) (x_c : Nat) (i : Int) (o : Addr), ρ 0 = .slice l_a l_n l_c ∧ ρ 1 = .bool raw ∧ ρ 5 = .slice x_a x_n x_c ∧ ρ 6 = .int .i64 i ∧ ρ 7 = .pointer (some o) ∧ K l_a l_n l_c raw x_a x_n x_c i o := by
  obtain ⟨l_a, l_n, l_c, e0, h1⟩ := dS_elim h0
  obtain ⟨raw, e1, h2⟩ := dB_elim h1
  obtain ⟨x_a, x_n, x_c, e5, h3⟩ := dS_elim h2
  obtain ⟨i, e6, h4⟩ := dI_elim h3
  obtain ⟨o_p, e7, h5⟩ := dP_elim h4
  obtain ⟨o, rfl, h6⟩ := wA_elim h5
  exact ⟨l_a, l_n, l_c, raw, x_a, x_n, x_c, i, o, e0, e1, e5, e6, e7, h6⟩
def herdsmanlaw26_OpAsks.d16 (K : Option Addr → Nat → Nat → Bool → Option Addr → Nat → Nat → Int → Addr → Prop) (ρ : Env) : Prop :=
  dS (ρ 0) fun l_a l_n l_c => dB (ρ 1) fun raw => dS (ρ 5) fun x_a x_n x_c => dI .i64 (ρ 6) fun i => dP (ρ 7) fun o_p => wA o_p fun o => K l_a l_n l_c raw x_a x_n x_c i o
theorem herdsmanlaw26_OpAsks.d16_elim {K : Option Addr → Nat → Nat → Bool → Option Addr → Nat → Nat → Int → Addr → Prop} {ρ : Env} (h0 : herdsmanlaw26_OpAsks.d16 K ρ) : ∃ (l_a : Option Addr) (l_n : Nat) (l_c : Nat) (raw : Bool) (x_a : Option Addr) (x_n : Nat) (x_c : Nat) (i : Int) (o : Addr), ρ 0 = .slice l_a l_n l_c ∧ ρ 1 = .bool raw ∧ ρ 5 = .slice x_a x_n x_c ∧ ρ 6 = .int .i64 i ∧ ρ 7 = .pointer (some o) ∧ K l_a l_n l_c raw x_a x_n x_c i o := by
  obtain ⟨l_a, l_n, l_c, e0, h1⟩ := dS_elim h0
  obtain ⟨raw, e1, h2⟩ := dB_elim h1
  obtain ⟨x_a, x_n, x_c, e5, h3⟩ := dS_elim h2
  obtain ⟨i, e6, h4⟩ := dI_elim h3
  obtain ⟨o_p, e7, h5⟩ := dP_elim h4
  obtain ⟨o, rfl, h6⟩ := wA_elim h5
  exact ⟨l_a, l_n, l_c, raw, x_a, x_n, x_c, i, o, e0, e1, e5, e6, e7, h6⟩
def herdsmanlaw26_OpAsks.d17 (K : Option Addr → Nat → Nat → Bool → Option Addr → Nat → Nat → Int → Addr → Prop) (ρ : Env) : Prop :=
  dS (ρ 0) fun l_a l_n l_c => dB (ρ 1) fun raw => dS (ρ 5) fun x_a x_n x_c => dI .i64 (ρ 6) fun i => dP (ρ 7) fun o_p => wA o_p fun o => K l_a l_n l_c raw x_a x_n x_c i o
theorem herdsmanlaw26_OpAsks.d17_elim {K : Option Addr → Nat → Nat → Bool → Option Addr → Nat → Nat → Int → Addr → Prop} {ρ : Env} (h0 : herdsmanlaw26_OpAsks.d17 K ρ) : ∃ (l_a : Option Addr) (l_n : Nat) (l_c : Nat) (raw : Bool) (x_a : Option Addr) (x_n : Nat) (x_c : Nat) (i : Int) (o : Addr), ρ 0 = .slice l_a l_n l_c ∧ ρ 1 = .bool raw ∧ ρ 5 = .slice x_a x_n x_c ∧ ρ 6 = .int .i64 i ∧ ρ 7 = .pointer (some o) ∧ K l_a l_n l_c raw x_a x_n x_c i o := by
  obtain ⟨l_a, l_n, l_c, e0, h1⟩ := dS_elim h0
  obtain ⟨raw, e1, h2⟩ := dB_elim h1
  obtain ⟨x_a, x_n, x_c, e5, h3⟩ := dS_elim h2
  obtain ⟨i, e6, h4⟩ := dI_elim h3
  obtain ⟨o_p, e7, h5⟩ := dP_elim h4
  obtain ⟨o, rfl, h6⟩ := wA_elim h5
  exact ⟨l_a, l_n, l_c, raw, x_a, x_n, x_c, i, o, e0, e1, e5, e6, e7, h6⟩
def herdsmanlaw26_OpAsks.d18 (K : Option Addr → Nat → Nat → Bool → Option Addr → Nat → Nat → Int → Addr → Prop) (ρ : Env) : Prop :=
  dS (ρ 0) fun l_a l_n l_c => dB (ρ 1) fun raw => dS (ρ 5) fun x_a x_n x_c => dI .i64 (ρ 6) fun i => dP (ρ 7) fun o_p => wA o_p fun o => K l_a l_n l_c raw x_a x_n x_c i o
theorem herdsmanlaw26_OpAsks.d18_elim {K : Option Addr → Nat → Nat → Bool → Option Addr → Nat → Nat → Int → Addr → Prop} {ρ : Env} (h0 : herdsmanlaw26_OpAsks.d18 K ρ) : ∃ (l_a : Option Addr) (l_n : Nat) (l_c : Nat) (raw : Bool) (x_a : Option Addr) (x_n : Nat) (x_c : Nat) (i : Int) (o : Addr), ρ 0 = .slice l_a l_n l_c ∧ ρ 1 = .bool raw ∧ ρ 5 = .slice x_a x_n x_c ∧ ρ 6 = .int .i64 i ∧ ρ 7 = .pointer (some o) ∧ K l_a l_n l_c raw x_a x_n x_c i o := by
  obtain ⟨l_a, l_n, l_c, e0, h1⟩ := dS_elim h0
  obtain ⟨raw, e1, h2⟩ := dB_elim h1
  obtain ⟨x_a, x_n, x_c, e5, h3⟩ := dS_elim h2
  obtain ⟨i, e6, h4⟩ := dI_elim h3
  obtain ⟨o_p, e7, h5⟩ := dP_elim h4
  obtain ⟨o, rfl, h6⟩ := wA_elim h5
  exact ⟨l_a, l_n, l_c, raw, x_a, x_n, x_c, i, o, e0, e1, e5, e6, e7, h6⟩
def herdsmanlaw26_OpAsks.d21 (K : Option Addr → Nat → Nat → Bool → Option Addr → Nat → Nat → Int → Addr → Prop) (ρ : Env) : Prop :=
  dS (ρ 0) fun l_a l_n l_c => dB (ρ 1) fun raw => dS (ρ 5) fun x_a x_n x_c => dI .i64 (ρ 6) fun i => dP (ρ 7) fun o_p => wA o_p fun o => K l_a l_n l_c raw x_a x_n x_c i o
theorem herdsmanlaw26_OpAsks.d21_elim {K : Option Addr → Nat → Nat → Bool → Option Addr → Nat → Nat → Int → Addr → Prop} {ρ : Env} (h0 : herdsmanlaw26_OpAsks.d21 K ρ) : ∃ (l_a : Option Addr) (l_n : Nat) (l_c : Nat) (raw : Bool) (x_a : Option Addr) (x_n : Nat) (x_c : Nat) (i : Int) (o : Addr), ρ 0 = .slice l_a l_n l_c ∧ ρ 1 = .bool raw ∧ ρ 5 = .slice x_a x_n x_c ∧ ρ 6 = .int .i64 i ∧ ρ 7 = .pointer (some o) ∧ K l_a l_n l_c raw x_a x_n x_c i o := by
  obtain ⟨l_a, l_n, l_c, e0, h1⟩ := dS_elim h0
  obtain ⟨raw, e1, h2⟩ := dB_elim h1
  obtain ⟨x_a, x_n, x_c, e5, h3⟩ := dS_elim h2
  obtain ⟨i, e6, h4⟩ := dI_elim h3
  obtain ⟨o_p, e7, h5⟩ := dP_elim h4
  obtain ⟨o, rfl, h6⟩ := wA_elim h5
  exact ⟨l_a, l_n, l_c, raw, x_a, x_n, x_c, i, o, e0, e1, e5, e6, e7, h6⟩
def herdsmanlaw26_OpAsks.d22 (K : Option Addr → Nat → Nat → Prop) (ρ : Env) : Prop :=
  dS (ρ 5) fun x_a x_n x_c => K x_a x_n x_c
theorem herdsmanlaw26_OpAsks.d22_elim {K : Option Addr → Nat → Nat → Prop} {ρ : Env} (h0 : herdsmanlaw26_OpAsks.d22 K ρ) : ∃ (x_a : Option Addr) (x_n : Nat) (x_c : Nat), ρ 5 = .slice x_a x_n x_c ∧ K x_a x_n x_c := by
  obtain ⟨x_a, x_n, x_c, e5, h1⟩ := dS_elim h0
  exact ⟨x_a, x_n, x_c, e5, h1⟩
set_option maxRecDepth 100000 in
theorem herdsmanlaw26_OpAsks.f21 (P3 : Option Addr → Nat → Nat → Bool → Option Addr → Nat → Nat → Int → World → Prop) (Q : Bool → World → Prop) (HP3 : ∀ l_a l_n l_c raw x_a x_n x_c i w, P3 l_a l_n l_c raw x_a x_n x_c i w → ∀ ρ : Env, ρ 0 = .slice l_a l_n l_c → ρ 1 = .bool raw → ρ 5 = .slice x_a x_n x_c → ρ 6 = .int .i64 i → Fin (cx 144) (todoOf Go.Proofs.Try.f4 3) ρ w (herdsmanlaw26_OpAsks.R Q)) : ∀ l_a l_n l_c raw x_a x_n x_c i o w, herdsmanlaw26_OpAsks.b21 P3 Q l_a l_n l_c raw x_a x_n x_c i o w → ∀ ρ : Env, ρ 0 = .slice l_a l_n l_c → ρ 1 = .bool raw → ρ 5 = .slice x_a x_n x_c → ρ 6 = .int .i64 i → ρ 7 = .pointer (some o) → Fin (cx 144) (todoOf Go.Proofs.Try.f4 21) ρ w (herdsmanlaw26_OpAsks.R Q) := by
  intro l_a l_n l_c raw x_a x_n x_c i o w h ρ e0 e1 e5 e6 e7
  refine Fin.cut (ρ' := put (put (put (put (put (ρ) (some 0) (.slice l_a l_n l_c)) (some 1) (.bool raw)) (some 5) (.slice x_a x_n x_c)) (some 6) (.int .i64 i)) (some 7) (.pointer (some o))) ?_ (by rw [put_id e0, put_id e1, put_id e5, put_id e6, put_id e7])
  refine evT_sound (ok 144) (drawD_sound (ok 144) herdsmanlaw26_OpAsks.scr) 600 (L := [(3, fun ρ w => herdsmanlaw26_OpAsks.d3 (fun l_a l_n l_c raw x_a x_n x_c i => P3 l_a l_n l_c raw x_a x_n x_c i w) ρ)]) (leaf_of (fn := Go.Proofs.Try.f4) [3] (by kernel_rfl) ⟨fun ρ w h => by obtain ⟨l_a, l_n, l_c, raw, x_a, x_n, x_c, i, e0, e1, e5, e6, h⟩ := herdsmanlaw26_OpAsks.d3_elim (ρ := ρ) h; exact HP3 l_a l_n l_c raw x_a x_n x_c i w h ρ e0 e1 e5 e6, trivial⟩) (castK h (by kernel_rfl))
set_option maxRecDepth 100000 in
theorem herdsmanlaw26_OpAsks.f18 (P3 : Option Addr → Nat → Nat → Bool → Option Addr → Nat → Nat → Int → World → Prop) (Q : Bool → World → Prop) (HP3 : ∀ l_a l_n l_c raw x_a x_n x_c i w, P3 l_a l_n l_c raw x_a x_n x_c i w → ∀ ρ : Env, ρ 0 = .slice l_a l_n l_c → ρ 1 = .bool raw → ρ 5 = .slice x_a x_n x_c → ρ 6 = .int .i64 i → Fin (cx 144) (todoOf Go.Proofs.Try.f4 3) ρ w (herdsmanlaw26_OpAsks.R Q)) : ∀ l_a l_n l_c raw x_a x_n x_c i o w, herdsmanlaw26_OpAsks.b18 P3 Q l_a l_n l_c raw x_a x_n x_c i o w → ∀ ρ : Env, ρ 0 = .slice l_a l_n l_c → ρ 1 = .bool raw → ρ 5 = .slice x_a x_n x_c → ρ 6 = .int .i64 i → ρ 7 = .pointer (some o) → Fin (cx 144) (todoOf Go.Proofs.Try.f4 18) ρ w (herdsmanlaw26_OpAsks.R Q) := by
  intro l_a l_n l_c raw x_a x_n x_c i o w h ρ e0 e1 e5 e6 e7
  refine Fin.cut (ρ' := put (put (put (put (put (ρ) (some 0) (.slice l_a l_n l_c)) (some 1) (.bool raw)) (some 5) (.slice x_a x_n x_c)) (some 6) (.int .i64 i)) (some 7) (.pointer (some o))) ?_ (by rw [put_id e0, put_id e1, put_id e5, put_id e6, put_id e7])
  refine evT_sound (ok 144) (drawD_sound (ok 144) herdsmanlaw26_OpAsks.scr) 600 (L := [(3, fun ρ w => herdsmanlaw26_OpAsks.d3 (fun l_a l_n l_c raw x_a x_n x_c i => P3 l_a l_n l_c raw x_a x_n x_c i w) ρ), (21, fun ρ w => herdsmanlaw26_OpAsks.d21 (fun l_a l_n l_c raw x_a x_n x_c i o => herdsmanlaw26_OpAsks.b21 P3 Q l_a l_n l_c raw x_a x_n x_c i o w) ρ)]) (leaf_of (fn := Go.Proofs.Try.f4) [21, 3] (by kernel_rfl) ⟨fun ρ w h => by obtain ⟨l_a, l_n, l_c, raw, x_a, x_n, x_c, i, e0, e1, e5, e6, h⟩ := herdsmanlaw26_OpAsks.d3_elim (ρ := ρ) h; exact HP3 l_a l_n l_c raw x_a x_n x_c i w h ρ e0 e1 e5 e6, fun ρ w h => by obtain ⟨l_a, l_n, l_c, raw, x_a, x_n, x_c, i, o, e0, e1, e5, e6, e7, h⟩ := herdsmanlaw26_OpAsks.d21_elim (ρ := ρ) h; exact herdsmanlaw26_OpAsks.f21 P3 Q HP3 l_a l_n l_c raw x_a x_n x_c i o w h ρ e0 e1 e5 e6 e7, trivial⟩) (castK h (by kernel_rfl))
set_option maxRecDepth 100000 in
theorem herdsmanlaw26_OpAsks.f17 (P3 : Option Addr → Nat → Nat → Bool → Option Addr → Nat → Nat → Int → World → Prop) (Q : Bool → World → Prop) (HP3 : ∀ l_a l_n l_c raw x_a x_n x_c i w, P3 l_a l_n l_c raw x_a x_n x_c i w → ∀ ρ : Env, ρ 0 = .slice l_a l_n l_c → ρ 1 = .bool raw → ρ 5 = .slice x_a x_n x_c → ρ 6 = .int .i64 i → Fin (cx 144) (todoOf Go.Proofs.Try.f4 3) ρ w (herdsmanlaw26_OpAsks.R Q)) : ∀ l_a l_n l_c raw x_a x_n x_c i o w, herdsmanlaw26_OpAsks.b17 P3 Q l_a l_n l_c raw x_a x_n x_c i o w → ∀ ρ : Env, ρ 0 = .slice l_a l_n l_c → ρ 1 = .bool raw → ρ 5 = .slice x_a x_n x_c → ρ 6 = .int .i64 i → ρ 7 = .pointer (some o) → Fin (cx 144) (todoOf Go.Proofs.Try.f4 17) ρ w (herdsmanlaw26_OpAsks.R Q) := by
  intro l_a l_n l_c raw x_a x_n x_c i o w h ρ e0 e1 e5 e6 e7
  refine Fin.cut (ρ' := put (put (put (put (put (ρ) (some 0) (.slice l_a l_n l_c)) (some 1) (.bool raw)) (some 5) (.slice x_a x_n x_c)) (some 6) (.int .i64 i)) (some 7) (.pointer (some o))) ?_ (by rw [put_id e0, put_id e1, put_id e5, put_id e6, put_id e7])
  refine evT_sound (ok 144) (drawD_sound (ok 144) herdsmanlaw26_OpAsks.scr) 600 (L := [(18, fun ρ w => herdsmanlaw26_OpAsks.d18 (fun l_a l_n l_c raw x_a x_n x_c i o => herdsmanlaw26_OpAsks.b18 P3 Q l_a l_n l_c raw x_a x_n x_c i o w) ρ)]) (leaf_of (fn := Go.Proofs.Try.f4) [18] (by kernel_rfl) ⟨fun ρ w h => by obtain ⟨l_a, l_n, l_c, raw, x_a, x_n, x_c, i, o, e0, e1, e5, e6, e7, h⟩ := herdsmanlaw26_OpAsks.d18_elim (ρ := ρ) h; exact herdsmanlaw26_OpAsks.f18 P3 Q HP3 l_a l_n l_c raw x_a x_n x_c i o w h ρ e0 e1 e5 e6 e7, trivial⟩) (castK h (by kernel_rfl))
set_option maxRecDepth 100000 in
theorem herdsmanlaw26_OpAsks.f16 (P3 : Option Addr → Nat → Nat → Bool → Option Addr → Nat → Nat → Int → World → Prop) (Q : Bool → World → Prop) (HP3 : ∀ l_a l_n l_c raw x_a x_n x_c i w, P3 l_a l_n l_c raw x_a x_n x_c i w → ∀ ρ : Env, ρ 0 = .slice l_a l_n l_c → ρ 1 = .bool raw → ρ 5 = .slice x_a x_n x_c → ρ 6 = .int .i64 i → Fin (cx 144) (todoOf Go.Proofs.Try.f4 3) ρ w (herdsmanlaw26_OpAsks.R Q)) : ∀ l_a l_n l_c raw x_a x_n x_c i o w, herdsmanlaw26_OpAsks.b16 P3 Q l_a l_n l_c raw x_a x_n x_c i o w → ∀ ρ : Env, ρ 0 = .slice l_a l_n l_c → ρ 1 = .bool raw → ρ 5 = .slice x_a x_n x_c → ρ 6 = .int .i64 i → ρ 7 = .pointer (some o) → Fin (cx 144) (todoOf Go.Proofs.Try.f4 16) ρ w (herdsmanlaw26_OpAsks.R Q) := by
  intro l_a l_n l_c raw x_a x_n x_c i o w h ρ e0 e1 e5 e6 e7
  refine Fin.cut (ρ' := put (put (put (put (put (ρ) (some 0) (.slice l_a l_n l_c)) (some 1) (.bool raw)) (some 5) (.slice x_a x_n x_c)) (some 6) (.int .i64 i)) (some 7) (.pointer (some o))) ?_ (by rw [put_id e0, put_id e1, put_id e5, put_id e6, put_id e7])
  refine evT_sound (ok 144) (drawD_sound (ok 144) herdsmanlaw26_OpAsks.scr) 600 (L := [(17, fun ρ w => herdsmanlaw26_OpAsks.d17 (fun l_a l_n l_c raw x_a x_n x_c i o => herdsmanlaw26_OpAsks.b17 P3 Q l_a l_n l_c raw x_a x_n x_c i o w) ρ), (18, fun ρ w => herdsmanlaw26_OpAsks.d18 (fun l_a l_n l_c raw x_a x_n x_c i o => herdsmanlaw26_OpAsks.b18 P3 Q l_a l_n l_c raw x_a x_n x_c i o w) ρ)]) (leaf_of (fn := Go.Proofs.Try.f4) [17, 18] (by kernel_rfl) ⟨fun ρ w h => by obtain ⟨l_a, l_n, l_c, raw, x_a, x_n, x_c, i, o, e0, e1, e5, e6, e7, h⟩ := herdsmanlaw26_OpAsks.d17_elim (ρ := ρ) h; exact herdsmanlaw26_OpAsks.f17 P3 Q HP3 l_a l_n l_c raw x_a x_n x_c i o w h ρ e0 e1 e5 e6 e7, fun ρ w h => by obtain ⟨l_a, l_n, l_c, raw, x_a, x_n, x_c, i, o, e0, e1, e5, e6, e7, h⟩ := herdsmanlaw26_OpAsks.d18_elim (ρ := ρ) h; exact herdsmanlaw26_OpAsks.f18 P3 Q HP3 l_a l_n l_c raw x_a x_n x_c i o w h ρ e0 e1 e5 e6 e7, trivial⟩) (castK h (by kernel_rfl))
set_option maxRecDepth 100000 in
theorem herdsmanlaw26_OpAsks.f15 (P3 : Option Addr → Nat → Nat → Bool → Option Addr → Nat → Nat → Int → World → Prop) (Q : Bool → World → Prop) (HP3 : ∀ l_a l_n l_c raw x_a x_n x_c i w, P3 l_a l_n l_c raw x_a x_n x_c i w → ∀ ρ : Env, ρ 0 = .slice l_a l_n l_c → ρ 1 = .bool raw → ρ 5 = .slice x_a x_n x_c → ρ 6 = .int .i64 i → Fin (cx 144) (todoOf Go.Proofs.Try.f4 3) ρ w (herdsmanlaw26_OpAsks.R Q)) : ∀ l_a l_n l_c raw x_a x_n x_c i o w, herdsmanlaw26_OpAsks.b15 P3 Q l_a l_n l_c raw x_a x_n x_c i o w → ∀ ρ : Env, ρ 0 = .slice l_a l_n l_c → ρ 1 = .bool raw → ρ 5 = .slice x_a x_n x_c → ρ 6 = .int .i64 i → ρ 7 = .pointer (some o) → Fin (cx 144) (todoOf Go.Proofs.Try.f4 15) ρ w (herdsmanlaw26_OpAsks.R Q) := by
  intro l_a l_n l_c raw x_a x_n x_c i o w h ρ e0 e1 e5 e6 e7
  refine Fin.cut (ρ' := put (put (put (put (put (ρ) (some 0) (.slice l_a l_n l_c)) (some 1) (.bool raw)) (some 5) (.slice x_a x_n x_c)) (some 6) (.int .i64 i)) (some 7) (.pointer (some o))) ?_ (by rw [put_id e0, put_id e1, put_id e5, put_id e6, put_id e7])
  refine evT_sound (ok 144) (drawD_sound (ok 144) herdsmanlaw26_OpAsks.scr) 600 (L := [(16, fun ρ w => herdsmanlaw26_OpAsks.d16 (fun l_a l_n l_c raw x_a x_n x_c i o => herdsmanlaw26_OpAsks.b16 P3 Q l_a l_n l_c raw x_a x_n x_c i o w) ρ)]) (leaf_of (fn := Go.Proofs.Try.f4) [16] (by kernel_rfl) ⟨fun ρ w h => by obtain ⟨l_a, l_n, l_c, raw, x_a, x_n, x_c, i, o, e0, e1, e5, e6, e7, h⟩ := herdsmanlaw26_OpAsks.d16_elim (ρ := ρ) h; exact herdsmanlaw26_OpAsks.f16 P3 Q HP3 l_a l_n l_c raw x_a x_n x_c i o w h ρ e0 e1 e5 e6 e7, trivial⟩) (castK h (by kernel_rfl))
set_option maxRecDepth 100000 in
theorem herdsmanlaw26_OpAsks.f14 (P3 : Option Addr → Nat → Nat → Bool → Option Addr → Nat → Nat → Int → World → Prop) (Q : Bool → World → Prop) (HP3 : ∀ l_a l_n l_c raw x_a x_n x_c i w, P3 l_a l_n l_c raw x_a x_n x_c i w → ∀ ρ : Env, ρ 0 = .slice l_a l_n l_c → ρ 1 = .bool raw → ρ 5 = .slice x_a x_n x_c → ρ 6 = .int .i64 i → Fin (cx 144) (todoOf Go.Proofs.Try.f4 3) ρ w (herdsmanlaw26_OpAsks.R Q)) : ∀ l_a l_n l_c raw x_a x_n x_c i o w, herdsmanlaw26_OpAsks.b14 P3 Q l_a l_n l_c raw x_a x_n x_c i o w → ∀ ρ : Env, ρ 0 = .slice l_a l_n l_c → ρ 1 = .bool raw → ρ 5 = .slice x_a x_n x_c → ρ 6 = .int .i64 i → ρ 7 = .pointer (some o) → Fin (cx 144) (todoOf Go.Proofs.Try.f4 14) ρ w (herdsmanlaw26_OpAsks.R Q) := by
  intro l_a l_n l_c raw x_a x_n x_c i o w h ρ e0 e1 e5 e6 e7
  refine Fin.cut (ρ' := put (put (put (put (put (ρ) (some 0) (.slice l_a l_n l_c)) (some 1) (.bool raw)) (some 5) (.slice x_a x_n x_c)) (some 6) (.int .i64 i)) (some 7) (.pointer (some o))) ?_ (by rw [put_id e0, put_id e1, put_id e5, put_id e6, put_id e7])
  refine evT_sound (ok 144) (drawD_sound (ok 144) herdsmanlaw26_OpAsks.scr) 600 (L := [(15, fun ρ w => herdsmanlaw26_OpAsks.d15 (fun l_a l_n l_c raw x_a x_n x_c i o => herdsmanlaw26_OpAsks.b15 P3 Q l_a l_n l_c raw x_a x_n x_c i o w) ρ), (16, fun ρ w => herdsmanlaw26_OpAsks.d16 (fun l_a l_n l_c raw x_a x_n x_c i o => herdsmanlaw26_OpAsks.b16 P3 Q l_a l_n l_c raw x_a x_n x_c i o w) ρ)]) (leaf_of (fn := Go.Proofs.Try.f4) [15, 16] (by kernel_rfl) ⟨fun ρ w h => by obtain ⟨l_a, l_n, l_c, raw, x_a, x_n, x_c, i, o, e0, e1, e5, e6, e7, h⟩ := herdsmanlaw26_OpAsks.d15_elim (ρ := ρ) h; exact herdsmanlaw26_OpAsks.f15 P3 Q HP3 l_a l_n l_c raw x_a x_n x_c i o w h ρ e0 e1 e5 e6 e7, fun ρ w h => by obtain ⟨l_a, l_n, l_c, raw, x_a, x_n, x_c, i, o, e0, e1, e5, e6, e7, h⟩ := herdsmanlaw26_OpAsks.d16_elim (ρ := ρ) h; exact herdsmanlaw26_OpAsks.f16 P3 Q HP3 l_a l_n l_c raw x_a x_n x_c i o w h ρ e0 e1 e5 e6 e7, trivial⟩) (castK h (by kernel_rfl))
set_option maxRecDepth 100000 in
theorem herdsmanlaw26_OpAsks.f22 (Q : Bool → World → Prop) : ∀ x_a x_n x_c w, herdsmanlaw26_OpAsks.b22 Q x_a x_n x_c w → ∀ ρ : Env, ρ 5 = .slice x_a x_n x_c → Fin (cx 144) (todoOf Go.Proofs.Try.f4 22) ρ w (herdsmanlaw26_OpAsks.R Q) := by
  intro x_a x_n x_c w h ρ e5
  refine Fin.cut (ρ' := put (ρ) (some 5) (.slice x_a x_n x_c)) ?_ (by rw [put_id e5])
  refine evT_sound (ok 144) (drawD_sound (ok 144) herdsmanlaw26_OpAsks.scr) 600 (L := []) (leaf_of (fn := Go.Proofs.Try.f4) [] (by kernel_rfl) trivial) (castK h (by kernel_rfl))
set_option maxRecDepth 100000 in
theorem herdsmanlaw26_OpAsks.f3 (Q : Bool → World → Prop) : ∀ k l_a l_n l_c raw x_a x_n x_c i w, herdsmanlaw26_OpAsks.b3 Q k l_a l_n l_c raw x_a x_n x_c i w → ∀ ρ : Env, ρ 0 = .slice l_a l_n l_c → ρ 1 = .bool raw → ρ 5 = .slice x_a x_n x_c → ρ 6 = .int .i64 i → Fin (cx 144) (todoOf Go.Proofs.Try.f4 3) ρ w (herdsmanlaw26_OpAsks.R Q) := by
  intro k
  induction k with
  | zero => intro l_a l_n l_c raw x_a x_n x_c i w h; exact h.elim
  | succ k ih =>
    intro l_a l_n l_c raw x_a x_n x_c i w h ρ e0 e1 e5 e6
    have h : herdsmanlaw26_OpAsks.s3 Q (herdsmanlaw26_OpAsks.b3 Q k) l_a l_n l_c raw x_a x_n x_c i w := h
    refine Fin.cut (ρ' := put (put (put (put (ρ) (some 0) (.slice l_a l_n l_c)) (some 1) (.bool raw)) (some 5) (.slice x_a x_n x_c)) (some 6) (.int .i64 i)) ?_ (by rw [put_id e0, put_id e1, put_id e5, put_id e6])
    refine evT_sound (ok 144) (drawD_sound (ok 144) herdsmanlaw26_OpAsks.scr) 600 (L := [(14, fun ρ w => herdsmanlaw26_OpAsks.d14 (fun l_a l_n l_c raw x_a x_n x_c i o => herdsmanlaw26_OpAsks.b14 (herdsmanlaw26_OpAsks.b3 Q k) Q l_a l_n l_c raw x_a x_n x_c i o w) ρ), (18, fun ρ w => herdsmanlaw26_OpAsks.d18 (fun l_a l_n l_c raw x_a x_n x_c i o => herdsmanlaw26_OpAsks.b18 (herdsmanlaw26_OpAsks.b3 Q k) Q l_a l_n l_c raw x_a x_n x_c i o w) ρ), (22, fun ρ w => herdsmanlaw26_OpAsks.d22 (fun x_a x_n x_c => herdsmanlaw26_OpAsks.b22 Q x_a x_n x_c w) ρ)]) (leaf_of (fn := Go.Proofs.Try.f4) [14, 14, 18, 22] (by kernel_rfl) ⟨fun ρ w h => by obtain ⟨l_a, l_n, l_c, raw, x_a, x_n, x_c, i, o, e0, e1, e5, e6, e7, h⟩ := herdsmanlaw26_OpAsks.d14_elim (ρ := ρ) h; exact herdsmanlaw26_OpAsks.f14 (herdsmanlaw26_OpAsks.b3 Q k) Q ih l_a l_n l_c raw x_a x_n x_c i o w h ρ e0 e1 e5 e6 e7, fun ρ w h => by obtain ⟨l_a, l_n, l_c, raw, x_a, x_n, x_c, i, o, e0, e1, e5, e6, e7, h⟩ := herdsmanlaw26_OpAsks.d18_elim (ρ := ρ) h; exact herdsmanlaw26_OpAsks.f18 (herdsmanlaw26_OpAsks.b3 Q k) Q ih l_a l_n l_c raw x_a x_n x_c i o w h ρ e0 e1 e5 e6 e7, fun ρ w h => by obtain ⟨x_a, x_n, x_c, e5, h⟩ := herdsmanlaw26_OpAsks.d22_elim (ρ := ρ) h; exact herdsmanlaw26_OpAsks.f22 Q x_a x_n x_c w h ρ e5, trivial⟩) (castK h (by kernel_rfl))
set_option maxRecDepth 100000 in
theorem herdsmanlaw26_OpAsks.body (l_a : Option Addr) (l_n : Nat) (l_c : Nat) (raw : Bool) (w : World) (Q : Bool → World → Prop) (h : herdsmanlaw26_OpAsks.sh l_a l_n l_c raw w Q) : herdsmanlaw26_OpAsks.call l_a l_n l_c raw w Q := by
  refine call_fn (ok 144) (fn := Go.Proofs.Try.f4) (args := [.slice l_a l_n l_c, .bool raw]) (K := herdsmanlaw26_OpAsks.qv Q) Go.Proofs.Try.func4 (by kernel_rfl) (by kernel_rfl) (by kernel_rfl) ?_
  refine evT_sound (ok 144) (drawD_sound (ok 144) herdsmanlaw26_OpAsks.scr) 600 (L := [(3, fun ρ w => herdsmanlaw26_OpAsks.d3 (fun l_a l_n l_c raw x_a x_n x_c i => ∃ k', herdsmanlaw26_OpAsks.b3 Q k' l_a l_n l_c raw x_a x_n x_c i w) ρ)]) (leaf_of (fn := Go.Proofs.Try.f4) [3] (by kernel_rfl) ⟨fun ρ w h => by obtain ⟨l_a, l_n, l_c, raw, x_a, x_n, x_c, i, e0, e1, e5, e6, h⟩ := herdsmanlaw26_OpAsks.d3_elim (ρ := ρ) h; obtain ⟨k', h⟩ := h; exact herdsmanlaw26_OpAsks.f3 Q k' l_a l_n l_c raw x_a x_n x_c i w h ρ e0 e1 e5 e6, trivial⟩) (castK h (by kernel_rfl))
end Go.Proofs.Ytjndgflalbcngaa.S
