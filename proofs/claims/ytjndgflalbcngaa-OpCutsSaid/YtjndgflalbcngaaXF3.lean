/- What the bodies ask, and that a call is no more. Printed by a program of this work (sxgen.py) out of the translation. -/
import Derived.Test.YtjndgflalbcngaaXT
set_option linter.unusedVariables false
set_option linter.unusedSimpArgs false
namespace Go.Proofs.Ytjndgflalbcngaa.S
open Go.Sx
/-! ### 18 herdsman/herdsmanref26.Made -/
def herdsmanref26_Made.b35 (P5 : Int → Int → Option Addr → Nat → Nat → Option Addr → Nat → Nat → Addr → Option Addr → Nat → Nat → Int → Int → World → Prop) (Q : Option Addr → Nat → Nat → World → Prop) (w0_1 : Int) (h0 : Int) (c_a : Option Addr) (c_n : Nat) (c_c : Nat) (l_a : Option Addr) (l_n : Nat) (l_c : Nat) (m : Addr) (out_a : Option Addr) (out_n : Nat) (out_c : Nat) (n : Int) (i : Int) (o : Addr) (w : World) : Prop :=
  LdI .i64 (o.add 0) w fun x126_Kind =>
  LdI .i64 (o.add 1) w fun x126_A =>
  LdI .i64 (o.add 2) w fun x126_B =>
  LdS (o.add 3) w fun x126_Map_a x126_Map_n x126_Map_c =>
  Bx [.int .i64 x126_Kind, .int .i64 x126_A, .int .i64 x126_B, .slice x126_Map_a x126_Map_n x126_Map_c] 30 w fun p127_s w0_2 =>
  App P #[25, 25] 25 (.slice out_a out_n out_c) (.slice (some p127_s) 1 1) w0_2 fun r128_a r128_n r128_c w0_3 =>
  P5 w0_1 h0 c_a c_n c_c l_a l_n l_c m r128_a r128_n r128_c n (IntKind.wrap .i64 (i + 1)) w0_3
def herdsmanref26_Made.b14 (P5 : Int → Int → Option Addr → Nat → Nat → Option Addr → Nat → Nat → Addr → Option Addr → Nat → Nat → Int → Int → World → Prop) (Q : Option Addr → Nat → Nat → World → Prop) (w0_1 : Int) (h0 : Int) (c_a : Option Addr) (c_n : Nat) (c_c : Nat) (l_a : Option Addr) (l_n : Nat) (l_c : Nat) (m : Addr) (out_a : Option Addr) (out_n : Nat) (out_c : Nat) (n : Int) (i : Int) (o : Addr) (w : World) : Prop :=
  St o (.int .i64 3) w fun w0_2 =>
  herdsmanref26_Made.b35 P5 Q w0_1 h0 c_a c_n c_c l_a l_n l_c m out_a out_n out_c n i o w0_2
def herdsmanref26_Made.b21 (P5 : Int → Int → Option Addr → Nat → Nat → Option Addr → Nat → Nat → Addr → Option Addr → Nat → Nat → Int → Int → World → Prop) (Q : Option Addr → Nat → Nat → World → Prop) (w0_1 : Int) (h0 : Int) (c_a : Option Addr) (c_n : Nat) (c_c : Nat) (l_a : Option Addr) (l_n : Nat) (l_c : Nat) (m : Addr) (out_a : Option Addr) (out_n : Nat) (out_c : Nat) (n : Int) (i : Int) (x : Addr) (o : Addr) (w : World) : Prop :=
  LdI .i64 (x.add 2) w fun x79 =>
  herdsmanref1_Cost.call (IntKind.wrap .u8 x79) w fun r81 w0_2 =>
  St o (.int .i64 2) w0_2 fun w0_3 =>
  St (o.add 2) (.int .i64 (IntKind.wrap .i64 r81)) w0_3 fun w0_4 =>
  herdsmanref26_Made.b35 P5 Q w0_1 h0 c_a c_n c_c l_a l_n l_c m out_a out_n out_c n i o w0_4
def herdsmanref26_Made.b9 (P5 : Int → Int → Option Addr → Nat → Nat → Option Addr → Nat → Nat → Addr → Option Addr → Nat → Nat → Int → Int → World → Prop) (Q : Option Addr → Nat → Nat → World → Prop) (w0_1 : Int) (h0 : Int) (c_a : Option Addr) (c_n : Nat) (c_c : Nat) (l_a : Option Addr) (l_n : Nat) (l_c : Nat) (m : Addr) (out_a : Option Addr) (out_n : Nat) (out_c : Nat) (n : Int) (i : Int) (x : Addr) (o : Addr) (w : World) : Prop :=
  LdI .i64 x w fun x52 =>
  herdsmanref1_Within.call x52 0 15 w fun r53 w0_2 =>
  cond (r53 == 0)
  (herdsmanref26_Made.b14 P5 Q w0_1 h0 c_a c_n c_c l_a l_n l_c m out_a out_n out_c n i o w0_2)
  (cond (r53 == 1)
  (herdsmanref26_Made.b14 P5 Q w0_1 h0 c_a c_n c_c l_a l_n l_c m out_a out_n out_c n i o w0_2)
  (cond (r53 == 2)
  (herdsmanref26_Made.b14 P5 Q w0_1 h0 c_a c_n c_c l_a l_n l_c m out_a out_n out_c n i o w0_2)
  (cond (r53 == 3)
  (LdI .i64 (x.add 1) w0_2 fun x63 =>
  herdsmanref1_Within.call x63 0 9 w0_2 fun r64 w0_3 =>
  St o (.int .i64 4) w0_3 fun w0_4 =>
  St (o.add 1) (.int .i64 r64) w0_4 fun w0_5 =>
  herdsmanref26_Made.b35 P5 Q w0_1 h0 c_a c_n c_c l_a l_n l_c m out_a out_n out_c n i o w0_5)
  (cond (r53 == 4)
  (LdI .i64 (x.add 1) w0_2 fun x70 =>
  herdsmanref1_Within.call x70 0 9 w0_2 fun r71 w0_6 =>
  St o (.int .i64 5) w0_6 fun w0_7 =>
  St (o.add 1) (.int .i64 r71) w0_7 fun w0_8 =>
  St (o.add 2) (.int .i64 0) w0_8 fun w0_9 =>
  herdsmanref26_Made.b35 P5 Q w0_1 h0 c_a c_n c_c l_a l_n l_c m out_a out_n out_c n i o w0_9)
  (cond (r53 == 5)
  (herdsmanref26_Made.b21 P5 Q w0_1 h0 c_a c_n c_c l_a l_n l_c m out_a out_n out_c n i x o w0_2)
  (cond (r53 == 6)
  (herdsmanref26_Made.b21 P5 Q w0_1 h0 c_a c_n c_c l_a l_n l_c m out_a out_n out_c n i x o w0_2)
  (cond (r53 == 7)
  (St o (.int .i64 6) w0_2 fun w0_10 =>
  herdsmanref26_Made.b35 P5 Q w0_1 h0 c_a c_n c_c l_a l_n l_c m out_a out_n out_c n i o w0_10)
  (cond (r53 == 8)
  (St o (.int .i64 6) w0_2 fun w0_11 =>
  herdsmanref26_Made.b35 P5 Q w0_1 h0 c_a c_n c_c l_a l_n l_c m out_a out_n out_c n i o w0_11)
  (cond (r53 == 9)
  (St (o.add 0) (.int .i64 8) w0_2 fun w0_12 =>
  St (o.add 1) (.int .i64 0) w0_12 fun w0_13 =>
  St (o.add 2) (.int .i64 0) w0_13 fun w0_14 =>
  St (o.add 3) (.slice none 0 0) w0_14 fun w0_15 =>
  herdsmanref26_Made.b35 P5 Q w0_1 h0 c_a c_n c_c l_a l_n l_c m out_a out_n out_c n i o w0_15)
  (cond (r53 == 10)
  (LdI .i64 (x.add 1) w0_2 fun x95 =>
  NZ 4 <|
  cond ((Int.tmod x95 4) == 0)
  (LdI .i64 (x.add 1) w0_2 fun x100 =>
  NZ 4 <|
  LdI .i64 (x.add 2) w0_2 fun x105 =>
  herdsmanref1_Made.call (IntKind.wrap .i64 (w0_1 + (IntKind.wrap .i64 (Int.tdiv x100 4)))) (IntKind.wrap .i64 (h0 + x105)) c_a c_n c_c w0_2 fun r108_0 r108_1 r108_2_a r108_2_n r108_2_c w0_16 =>
  St (m.add 0) (.int .i64 r108_0) w0_16 fun w0_17 =>
  St (m.add 1) (.int .i64 r108_1) w0_17 fun w0_18 =>
  St (m.add 2) (.slice r108_2_a r108_2_n r108_2_c) w0_18 fun w0_19 =>
  LdS (m.add 2) w0_19 fun x110_a x110_n x110_c =>
  LdI .i64 (m.add 0) w0_19 fun x112_W =>
  LdI .i64 (m.add 1) w0_19 fun x112_H =>
  LdS (m.add 2) w0_19 fun x112_C_a x112_C_n x112_C_c =>
  herdsmanref1_PutMap.call x112_W x112_H x112_C_a x112_C_n x112_C_c w0_19 fun r113_a r113_n r113_c w0_20 =>
  St (o.add 0) (.int .i64 1) w0_20 fun w0_21 =>
  St (o.add 1) (.int .i64 0) w0_21 fun w0_22 =>
  St (o.add 2) (.int .i64 0) w0_22 fun w0_23 =>
  St (o.add 3) (.slice r113_a r113_n r113_c) w0_23 fun w0_24 =>
  herdsmanref26_Made.b35 P5 Q w0_1 h0 c_a c_n c_c l_a l_n l_c m out_a out_n out_c (x110_n : Int) i o w0_24)
  (LdI .i64 (x.add 2) w0_2 fun x116 =>
  herdsmanref1_Within.call x116 0 200 w0_2 fun r117 w0_25 =>
  St (o.add 0) (.int .i64 0) w0_25 fun w0_26 =>
  St (o.add 1) (.int .i64 (IntKind.wrap .i64 (9 + r117))) w0_26 fun w0_27 =>
  St (o.add 2) (.int .i64 0) w0_27 fun w0_28 =>
  St (o.add 3) (.slice none 0 0) w0_28 fun w0_29 =>
  herdsmanref26_Made.b35 P5 Q w0_1 h0 c_a c_n c_c l_a l_n l_c m out_a out_n out_c n i o w0_29))
  (cond (r53 == 11)
  (LdI .i64 (x.add 0) w0_2 fun x122_Kind =>
  LdI .i64 (x.add 1) w0_2 fun x122_A =>
  LdI .i64 (x.add 2) w0_2 fun x122_B =>
  herdsmanref26_Odd.call x122_Kind x122_A x122_B n w0_2 fun r124_0 r124_1 r124_2 r124_3_a r124_3_n r124_3_c w0_30 =>
  St (o.add 0) (.int .i64 r124_0) w0_30 fun w0_31 =>
  St (o.add 1) (.int .i64 r124_1) w0_31 fun w0_32 =>
  St (o.add 2) (.int .i64 r124_2) w0_32 fun w0_33 =>
  St (o.add 3) (.slice r124_3_a r124_3_n r124_3_c) w0_33 fun w0_34 =>
  herdsmanref26_Made.b35 P5 Q w0_1 h0 c_a c_n c_c l_a l_n l_c m out_a out_n out_c n i o w0_34)
  (St (o.add 0) (.int .i64 7) w0_2 fun w0_35 =>
  St (o.add 1) (.int .i64 0) w0_35 fun w0_36 =>
  St (o.add 2) (.int .i64 0) w0_36 fun w0_37 =>
  St (o.add 3) (.slice none 0 0) w0_37 fun w0_38 =>
  herdsmanref26_Made.b35 P5 Q w0_1 h0 c_a c_n c_c l_a l_n l_c m out_a out_n out_c n i o w0_38))))))))))))
def herdsmanref26_Made.s5 (Q : Option Addr → Nat → Nat → World → Prop) (R5 : Int → Int → Option Addr → Nat → Nat → Option Addr → Nat → Nat → Addr → Option Addr → Nat → Nat → Int → Int → World → Prop) (w0_1 : Int) (h0 : Int) (c_a : Option Addr) (c_n : Nat) (c_c : Nat) (l_a : Option Addr) (l_n : Nat) (l_c : Nat) (m : Addr) (out_a : Option Addr) (out_n : Nat) (out_c : Nat) (n : Int) (i : Int) (w : World) : Prop :=
  cond (decide (i < (l_n : Int)))
  (cond (decide (i < 60))
  (InB i l_n <|
  wA l_a fun p =>
  LdI .i64 ((p.add (i.toNat * 3)).add 0) w fun x39_Kind =>
  LdI .i64 ((p.add (i.toNat * 3)).add 1) w fun x39_A =>
  LdI .i64 ((p.add (i.toNat * 3)).add 2) w fun x39_B =>
  Al T 59 w fun x w0_2 =>
  St (x.add 0) (.int .i64 x39_Kind) w0_2 fun w0_3 =>
  St (x.add 1) (.int .i64 x39_A) w0_3 fun w0_4 =>
  St (x.add 2) (.int .i64 x39_B) w0_4 fun w0_5 =>
  LdI .i64 (x.add 1) w0_5.drew fun x41 =>
  LdI .i64 (x.add 2) w0_5.drew fun x46 =>
  (herdsmanref1_Within.call x41 0 (IntKind.wrap .i64 (n - 1)) w0_5.drew fun r44 w0_6 =>
  w0_6.cell? (x.add 2) = some (.int .i64 x46) ∧
  (herdsmanref1_Within.call x46 0 (IntKind.wrap .i64 (n - 1)) w0_6 fun r49 w0_7 =>
  Al T 30 w0_7 fun o w0_8 =>
  w0_8.cell? (x.add 2) = some (.int .i64 x46) ∧
  w0_8.cell? (x.add 1) = some (.int .i64 x41) ∧
  St (o.add 0) (.int .i64 0) w0_8 fun w0_9 =>
  St (o.add 1) (.int .i64 r44) w0_9 fun w0_10 =>
  St (o.add 2) (.int .i64 r49) w0_10 fun w0_11 =>
  St (o.add 3) (.slice none 0 0) w0_11 fun w0_12 =>
  herdsmanref26_Made.b9 R5 Q w0_1 h0 c_a c_n c_c l_a l_n l_c m out_a out_n out_c n i x o w0_12) ∧
  (Al T 30 w0_6 fun o_1 w0_13 =>
  w0_13.cell? (x.add 2) = some (.int .i64 x46) ∧
  w0_13.cell? (x.add 1) = some (.int .i64 x41) ∧
  herdsmanref1_Within.call x46 0 (IntKind.wrap .i64 (n - 1)) w0_13 fun r49_1 w0_14 =>
  St (o_1.add 0) (.int .i64 0) w0_14 fun w0_15 =>
  St (o_1.add 1) (.int .i64 r44) w0_15 fun w0_16 =>
  St (o_1.add 2) (.int .i64 r49_1) w0_16 fun w0_17 =>
  St (o_1.add 3) (.slice none 0 0) w0_17 fun w0_18 =>
  herdsmanref26_Made.b9 R5 Q w0_1 h0 c_a c_n c_c l_a l_n l_c m out_a out_n out_c n i x o_1 w0_18)) ∧
  (Al T 30 w0_5.drew fun o_2 w0_19 =>
  w0_19.cell? (x.add 2) = some (.int .i64 x46) ∧
  w0_19.cell? (x.add 1) = some (.int .i64 x41) ∧
  herdsmanref1_Within.call x41 0 (IntKind.wrap .i64 (n - 1)) w0_19 fun r44_1 w0_20 =>
  w0_20.cell? (x.add 2) = some (.int .i64 x46) ∧
  herdsmanref1_Within.call x46 0 (IntKind.wrap .i64 (n - 1)) w0_20 fun r49_2 w0_21 =>
  St (o_2.add 0) (.int .i64 0) w0_21 fun w0_22 =>
  St (o_2.add 1) (.int .i64 r44_1) w0_22 fun w0_23 =>
  St (o_2.add 2) (.int .i64 r49_2) w0_23 fun w0_24 =>
  St (o_2.add 3) (.slice none 0 0) w0_24 fun w0_25 =>
  herdsmanref26_Made.b9 R5 Q w0_1 h0 c_a c_n c_c l_a l_n l_c m out_a out_n out_c n i x o_2 w0_25))
  (Q out_a out_n out_c w))
  (Q out_a out_n out_c w)
def herdsmanref26_Made.b5 (Q : Option Addr → Nat → Nat → World → Prop) : Nat → Int → Int → Option Addr → Nat → Nat → Option Addr → Nat → Nat → Addr → Option Addr → Nat → Nat → Int → Int → World → Prop
  | 0, _, _, _, _, _, _, _, _, _, _, _, _, _, _, _ => False
  | k + 1, w0_1, h0, c_a, c_n, c_c, l_a, l_n, l_c, m, out_a, out_n, out_c, n, i, w => herdsmanref26_Made.s5 Q (herdsmanref26_Made.b5 Q k) w0_1 h0 c_a c_n c_c l_a l_n l_c m out_a out_n out_c n i w
def herdsmanref26_Made.sh (w0_1 : Int) (h0 : Int) (c_a : Option Addr) (c_n : Nat) (c_c : Nat) (l_a : Option Addr) (l_n : Nat) (l_c : Nat) (w : World) (Q : Option Addr → Nat → Nat → World → Prop) : Prop :=
  herdsmanref1_Made.call w0_1 h0 c_a c_n c_c w fun r18_0 r18_1 r18_2_a r18_2_n r18_2_c w0_2 =>
  Al T 55 w0_2 fun m w0_3 =>
  St (m.add 0) (.int .i64 r18_0) w0_3 fun w0_4 =>
  St (m.add 1) (.int .i64 r18_1) w0_4 fun w0_5 =>
  St (m.add 2) (.slice r18_2_a r18_2_n r18_2_c) w0_5 fun w0_6 =>
  LdI .i64 (m.add 0) w0_6 fun x19_W =>
  LdI .i64 (m.add 1) w0_6 fun x19_H =>
  LdS (m.add 2) w0_6 fun x19_C_a x19_C_n x19_C_c =>
  herdsmanref1_PutMap.call x19_W x19_H x19_C_a x19_C_n x19_C_c w0_6 fun r20_a r20_n r20_c w0_7 =>
  Bx [.int .i64 1, .int .i64 0, .int .i64 0, .slice r20_a r20_n r20_c] 30 w0_7 fun p22_s w0_8 =>
  LdS (m.add 2) w0_8 fun x24_a x24_n x24_c =>
  ∃ k', herdsmanref26_Made.b5 Q k' w0_1 h0 c_a c_n c_c l_a l_n l_c m (some p22_s) 1 1 (x24_n : Int) 0 w0_8
noncomputable def herdsmanref26_Made.scr : Scrs := [(8, .op 0 (.op 1 (.op 2 (.op 3 (.op 5 (.op 6 (.op 7 (.op 8 (.br (.op 4 (.br (.op 9 (.op 10 (.op 11 (.op 12 .done)))) (.op 11 (.op 9 (.op 10 (.op 12 .done)))))) (.op 11 (.op 4 (.op 9 (.op 10 (.op 12 .done))))))))))))))]
def herdsmanref26_Made.R (Q : Option Addr → Nat → Nat → World → Prop) (ρ : Env) (w : World) : Prop := evRes (cx 130) Go.Proofs.Try.f18.results.toList ρ w fun vs => herdsmanref26_Made.qv Q (resV vs) w
def herdsmanref26_Made.d5 (K : Int → Int → Option Addr → Nat → Nat → Option Addr → Nat → Nat → Addr → Option Addr → Nat → Nat → Int → Int → Prop) (ρ : Env) : Prop :=
  dI .i64 (ρ 0) fun w0 => dI .i64 (ρ 1) fun h0 => dS (ρ 2) fun c_a c_n c_c => dS (ρ 3) fun l_a l_n l_c => dP (ρ 9) fun m_p => wA m_p fun m => dS (ρ 10) fun out_a out_n out_c => dI .i64 (ρ 11) fun n => dI .i64 (ρ 12) fun i => K w0 h0 c_a c_n c_c l_a l_n l_c m out_a out_n out_c n i
theorem herdsmanref26_Made.d5_elim {K : Int → Int → Option Addr → Nat → Nat → Option Addr → Nat → Nat → Addr → Option Addr → Nat → Nat → Int → Int → Prop} {ρ : Env} (h0 : herdsmanref26_Made.d5 K ρ) : ∃ (w0_1 : Int) (h0 : Int) (c_a : Option Addr) (c_n : Nat) (c_c : Nat) (l_a : Option Addr) (l_n : Nat) (l_c : Nat) (m : Addr) (out_a : Option Addr) (out_n : Nat) (out_c : Nat) (n : Int) (i : Int), ρ 0 = .int .i64 w0_1 ∧ ρ 1 = .int .i64 h0 ∧ ρ 2 = .slice c_a c_n c_c ∧ ρ 3 = .slice l_a l_n l_c ∧ ρ 9 = .pointer (some m) ∧ ρ 10 = .slice out_a out_n out_c ∧ ρ 11 = .int .i64 n ∧ ρ 12 = .int .i64 i ∧ K w0_1 h0 c_a c_n c_c l_a l_n l_c m out_a out_n out_c n i := by
  obtain ⟨w0, e0, h1⟩ := dI_elim h0
  obtain ⟨h0, e1, h2⟩ := dI_elim h1
  obtain ⟨c_a, c_n, c_c, e2, h3⟩ := dS_elim h2
  obtain ⟨l_a, l_n, l_c, e3, h4⟩ := dS_elim h3
  obtain ⟨m_p, e9, h5⟩ := dP_elim h4
  obtain ⟨m, rfl, h6⟩ := wA_elim h5
  obtain ⟨out_a, out_n, out_c, e10, h7⟩ := dS_elim h6
  obtain ⟨n, e11, h8⟩ := dI_elim h7
  obtain ⟨i, e12, h9⟩ := dI_elim h8
  exact ⟨w0, h0, c_a, c_n, c_c, l_a, l_n, l_c, m, out_a, out_n, out_c, n, i, e0, e1, e2, e3, e9, e10, e11, e12, h9⟩
def herdsmanref26_Made.d9 (K : Int → Int → Option Addr → Nat → Nat → Option Addr → Nat → Nat → Addr → Option Addr → Nat → Nat → Int → Int → Addr → Addr → Prop) (ρ : Env) : Prop :=
  dI .i64 (ρ 0) fun w0 => dI .i64 (ρ 1) fun h0 => dS (ρ 2) fun c_a c_n c_c => dS (ρ 3) fun l_a l_n l_c => dP (ρ 9) fun m_p => wA m_p fun m => dS (ρ 10) fun out_a out_n out_c => dI .i64 (ρ 11) fun n => dI .i64 (ρ 12) fun i => dP (ρ 13) fun x_p => wA x_p fun x => dP (ρ 14) fun o_p => wA o_p fun o => K w0 h0 c_a c_n c_c l_a l_n l_c m out_a out_n out_c n i x o
theorem herdsmanref26_Made.d9_elim {K : Int → Int → Option Addr → Nat → Nat → Option Addr → Nat → Nat → Addr → Option Addr → Nat → Nat → Int → Int → Addr → Addr → Prop} {ρ : Env} (h0 : herdsmanref26_Made.d9 K ρ) : ∃ (w0_1 : Int) (h0 : Int) (c_a : Option Addr) (c_n : Nat) (c_c : Nat) (l_a : Option Addr) (l_n : Nat) (l_c : Nat) (m : Addr) (out_a : Option Addr) (out_n : Nat) (out_c : Nat) (n : Int) (i : Int) (x : Addr) (o : Addr), ρ 0 = .int .i64 w0_1 ∧ ρ 1 = .int .i64 h0 ∧ ρ 2 = .slice c_a c_n c_c ∧ ρ 3 = .slice l_a l_n l_c ∧ ρ 9 = .pointer (some m) ∧ ρ 10 = .slice out_a out_n out_c ∧ ρ 11 = .int .i64 n ∧ ρ 12 = .int .i64 i ∧ ρ 13 = .pointer (some x) ∧ ρ 14 = .pointer (some o) ∧ K w0_1 h0 c_a c_n c_c l_a l_n l_c m out_a out_n out_c n i x o := by
  obtain ⟨w0, e0, h1⟩ := dI_elim h0
  obtain ⟨h0, e1, h2⟩ := dI_elim h1
  obtain ⟨c_a, c_n, c_c, e2, h3⟩ := dS_elim h2
  obtain ⟨l_a, l_n, l_c, e3, h4⟩ := dS_elim h3
  obtain ⟨m_p, e9, h5⟩ := dP_elim h4
  obtain ⟨m, rfl, h6⟩ := wA_elim h5
  obtain ⟨out_a, out_n, out_c, e10, h7⟩ := dS_elim h6
  obtain ⟨n, e11, h8⟩ := dI_elim h7
  obtain ⟨i, e12, h9⟩ := dI_elim h8
  obtain ⟨x_p, e13, h10⟩ := dP_elim h9
  obtain ⟨x, rfl, h11⟩ := wA_elim h10
  obtain ⟨o_p, e14, h12⟩ := dP_elim h11
  obtain ⟨o, rfl, h13⟩ := wA_elim h12
  exact ⟨w0, h0, c_a, c_n, c_c, l_a, l_n, l_c, m, out_a, out_n, out_c, n, i, x, o, e0, e1, e2, e3, e9, e10, e11, e12, e13, e14, h13⟩
def herdsmanref26_Made.d14 (K : Int → Int → Option Addr → Nat → Nat → Option Addr → Nat → Nat → Addr → Option Addr → Nat → Nat → Int → Int → Addr → Prop) (ρ : Env) : Prop :=
  dI .i64 (ρ 0) fun w0 => dI .i64 (ρ 1) fun h0 => dS (ρ 2) fun c_a c_n c_c => dS (ρ 3) fun l_a l_n l_c => dP (ρ 9) fun m_p => wA m_p fun m => dS (ρ 10) fun out_a out_n out_c => dI .i64 (ρ 11) fun n => dI .i64 (ρ 12) fun i => dP (ρ 14) fun o_p => wA o_p fun o => K w0 h0 c_a c_n c_c l_a l_n l_c m out_a out_n out_c n i o
theorem herdsmanref26_Made.d14_elim {K : Int → Int → Option Addr → Nat → Nat → Option Addr → Nat → Nat → Addr → Option Addr → Nat → Nat → Int → Int → Addr → Prop} {ρ : Env} (h0 : herdsmanref26_Made.d14 K ρ) : ∃ (w0_1 : Int) (h0 : Int) (c_a : Option Addr) (c_n : Nat) (c_c : Nat) (l_a : Option Addr) (l_n : Nat) (l_c : Nat) (m : Addr) (out_a : Option Addr) (out_n : Nat) (out_c : Nat) (n : Int) (i : Int) (o : Addr), ρ 0 = .int .i64 w0_1 ∧ ρ 1 = .int .i64 h0 ∧ ρ 2 = .slice c_a c_n c_c ∧ ρ 3 = .slice l_a l_n l_c ∧ ρ 9 = .pointer (some m) ∧ ρ 10 = .slice out_a out_n out_c ∧ ρ 11 = .int .i64 n ∧ ρ 12 = .int .i64 i ∧ ρ 14 = .pointer (some o) ∧ K w0_1 h0 c_a c_n c_c l_a l_n l_c m out_a out_n out_c n i o := by
  obtain ⟨w0, e0, h1⟩ := dI_elim h0
  obtain ⟨h0, e1, h2⟩ := dI_elim h1
  obtain ⟨c_a, c_n, c_c, e2, h3⟩ := dS_elim h2
  obtain ⟨l_a, l_n, l_c, e3, h4⟩ := dS_elim h3
  obtain ⟨m_p, e9, h5⟩ := dP_elim h4
  obtain ⟨m, rfl, h6⟩ := wA_elim h5
  obtain ⟨out_a, out_n, out_c, e10, h7⟩ := dS_elim h6
  obtain ⟨n, e11, h8⟩ := dI_elim h7
  obtain ⟨i, e12, h9⟩ := dI_elim h8
  obtain ⟨o_p, e14, h10⟩ := dP_elim h9
  obtain ⟨o, rfl, h11⟩ := wA_elim h10
  exact ⟨w0, h0, c_a, c_n, c_c, l_a, l_n, l_c, m, out_a, out_n, out_c, n, i, o, e0, e1, e2, e3, e9, e10, e11, e12, e14, h11⟩
def herdsmanref26_Made.d21 (K : Int → Int → Option Addr → Nat → Nat → Option Addr → Nat → Nat → Addr → Option Addr → Nat → Nat → Int → Int → Addr → Addr → Prop) (ρ : Env) : Prop :=
  dI .i64 (ρ 0) fun w0 => dI .i64 (ρ 1) fun h0 => dS (ρ 2) fun c_a c_n c_c => dS (ρ 3) fun l_a l_n l_c => dP (ρ 9) fun m_p => wA m_p fun m => dS (ρ 10) fun out_a out_n out_c => dI .i64 (ρ 11) fun n => dI .i64 (ρ 12) fun i => dP (ρ 13) fun x_p => wA x_p fun x => dP (ρ 14) fun o_p => wA o_p fun o => K w0 h0 c_a c_n c_c l_a l_n l_c m out_a out_n out_c n i x o
theorem herdsmanref26_Made.d21_elim {K : Int → Int → Option Addr → Nat → Nat → Option Addr → Nat → Nat → Addr → Option Addr → Nat → Nat → Int → Int → Addr → Addr → Prop} {ρ : Env} (h0 : herdsmanref26_Made.d21 K ρ) : ∃ (w0_1 : Int) (h0 : Int) (c_a : Option Addr) (c_n : Nat) (c_c : Nat) (l_a : Option Addr) (l_n : Nat) (l_c : Nat) (m : Addr) (out_a : Option Addr) (out_n : Nat) (out_c : Nat) (n : Int) (i : Int) (x : Addr) (o : Addr), ρ 0 = .int .i64 w0_1 ∧ ρ 1 = .int .i64 h0 ∧ ρ 2 = .slice c_a c_n c_c ∧ ρ 3 = .slice l_a l_n l_c ∧ ρ 9 = .pointer (some m) ∧ ρ 10 = .slice out_a out_n out_c ∧ ρ 11 = .int .i64 n ∧ ρ 12 = .int .i64 i ∧ ρ 13 = .pointer (some x) ∧ ρ 14 = .pointer (some o) ∧ K w0_1 h0 c_a c_n c_c l_a l_n l_c m out_a out_n out_c n i x o := by
  obtain ⟨w0, e0, h1⟩ := dI_elim h0
  obtain ⟨h0, e1, h2⟩ := dI_elim h1
  obtain ⟨c_a, c_n, c_c, e2, h3⟩ := dS_elim h2
  obtain ⟨l_a, l_n, l_c, e3, h4⟩ := dS_elim h3
  obtain ⟨m_p, e9, h5⟩ := dP_elim h4
  obtain ⟨m, rfl, h6⟩ := wA_elim h5
  obtain ⟨out_a, out_n, out_c, e10, h7⟩ := dS_elim h6
  obtain ⟨n, e11, h8⟩ := dI_elim h7
  obtain ⟨i, e12, h9⟩ := dI_elim h8
  obtain ⟨x_p, e13, h10⟩ := dP_elim h9
  obtain ⟨x, rfl, h11⟩ := wA_elim h10
  obtain ⟨o_p, e14, h12⟩ := dP_elim h11
  obtain ⟨o, rfl, h13⟩ := wA_elim h12
  exact ⟨w0, h0, c_a, c_n, c_c, l_a, l_n, l_c, m, out_a, out_n, out_c, n, i, x, o, e0, e1, e2, e3, e9, e10, e11, e12, e13, e14, h13⟩
def herdsmanref26_Made.d35 (K : Int → Int → Option Addr → Nat → Nat → Option Addr → Nat → Nat → Addr → Option Addr → Nat → Nat → Int → Int → Addr → Prop) (ρ : Env) : Prop :=
  dI .i64 (ρ 0) fun w0 => dI .i64 (ρ 1) fun h0 => dS (ρ 2) fun c_a c_n c_c => dS (ρ 3) fun l_a l_n l_c => dP (ρ 9) fun m_p => wA m_p fun m => dS (ρ 10) fun out_a out_n out_c => dI .i64 (ρ 11) fun n => dI .i64 (ρ 12) fun i => dP (ρ 14) fun o_p => wA o_p fun o => K w0 h0 c_a c_n c_c l_a l_n l_c m out_a out_n out_c n i o
theorem herdsmanref26_Made.d35_elim {K : Int → Int → Option Addr → Nat → Nat → Option Addr → Nat → Nat → Addr → Option Addr → Nat → Nat → Int → Int → Addr → Prop} {ρ : Env} (h0 : herdsmanref26_Made.d35 K ρ) : ∃ (w0_1 : Int) (h0 : Int) (c_a : Option Addr) (c_n : Nat) (c_c : Nat) (l_a : Option Addr) (l_n : Nat) (l_c : Nat) (m : Addr) (out_a : Option Addr) (out_n : Nat) (out_c : Nat) (n : Int) (i : Int) (o : Addr), ρ 0 = .int .i64 w0_1 ∧ ρ 1 = .int .i64 h0 ∧ ρ 2 = .slice c_a c_n c_c ∧ ρ 3 = .slice l_a l_n l_c ∧ ρ 9 = .pointer (some m) ∧ ρ 10 = .slice out_a out_n out_c ∧ ρ 11 = .int .i64 n ∧ ρ 12 = .int .i64 i ∧ ρ 14 = .pointer (some o) ∧ K w0_1 h0 c_a c_n c_c l_a l_n l_c m out_a out_n out_c n i o := by
  obtain ⟨w0, e0, h1⟩ := dI_elim h0
  obtain ⟨h0, e1, h2⟩ := dI_elim h1
  obtain ⟨c_a, c_n, c_c, e2, h3⟩ := dS_elim h2
  obtain ⟨l_a, l_n, l_c, e3, h4⟩ := dS_elim h3
  obtain ⟨m_p, e9, h5⟩ := dP_elim h4
  obtain ⟨m, rfl, h6⟩ := wA_elim h5
  obtain ⟨out_a, out_n, out_c, e10, h7⟩ := dS_elim h6
  obtain ⟨n, e11, h8⟩ := dI_elim h7
  obtain ⟨i, e12, h9⟩ := dI_elim h8
  obtain ⟨o_p, e14, h10⟩ := dP_elim h9
  obtain ⟨o, rfl, h11⟩ := wA_elim h10
  exact ⟨w0, h0, c_a, c_n, c_c, l_a, l_n, l_c, m, out_a, out_n, out_c, n, i, o, e0, e1, e2, e3, e9, e10, e11, e12, e14, h11⟩
set_option maxRecDepth 100000 in
theorem herdsmanref26_Made.f35 (P5 : Int → Int → Option Addr → Nat → Nat → Option Addr → Nat → Nat → Addr → Option Addr → Nat → Nat → Int → Int → World → Prop) (Q : Option Addr → Nat → Nat → World → Prop) (HP5 : ∀ w0_1 h0 c_a c_n c_c l_a l_n l_c m out_a out_n out_c n i w, P5 w0_1 h0 c_a c_n c_c l_a l_n l_c m out_a out_n out_c n i w → ∀ ρ : Env, ρ 0 = .int .i64 w0_1 → ρ 1 = .int .i64 h0 → ρ 2 = .slice c_a c_n c_c → ρ 3 = .slice l_a l_n l_c → ρ 9 = .pointer (some m) → ρ 10 = .slice out_a out_n out_c → ρ 11 = .int .i64 n → ρ 12 = .int .i64 i → Fin (cx 130) (todoOf Go.Proofs.Try.f18 5) ρ w (herdsmanref26_Made.R Q)) : ∀ w0_1 h0 c_a c_n c_c l_a l_n l_c m out_a out_n out_c n i o w, herdsmanref26_Made.b35 P5 Q w0_1 h0 c_a c_n c_c l_a l_n l_c m out_a out_n out_c n i o w → ∀ ρ : Env, ρ 0 = .int .i64 w0_1 → ρ 1 = .int .i64 h0 → ρ 2 = .slice c_a c_n c_c → ρ 3 = .slice l_a l_n l_c → ρ 9 = .pointer (some m) → ρ 10 = .slice out_a out_n out_c → ρ 11 = .int .i64 n → ρ 12 = .int .i64 i → ρ 14 = .pointer (some o) → Fin (cx 130) (todoOf Go.Proofs.Try.f18 35) ρ w (herdsmanref26_Made.R Q) := by
  intro w0_1 h0 c_a c_n c_c l_a l_n l_c m out_a out_n out_c n i o w h ρ e0 e1 e2 e3 e9 e10 e11 e12 e14
  refine Fin.cut (ρ' := put (put (put (put (put (put (put (put (put (ρ) (some 0) (.int .i64 w0_1)) (some 1) (.int .i64 h0)) (some 2) (.slice c_a c_n c_c)) (some 3) (.slice l_a l_n l_c)) (some 9) (.pointer (some m))) (some 10) (.slice out_a out_n out_c)) (some 11) (.int .i64 n)) (some 12) (.int .i64 i)) (some 14) (.pointer (some o))) ?_ (by rw [put_id e0, put_id e1, put_id e2, put_id e3, put_id e9, put_id e10, put_id e11, put_id e12, put_id e14])
  refine evT_sound (ok 130) (drawD_sound (ok 130) herdsmanref26_Made.scr) 600 (L := [(5, fun ρ w => herdsmanref26_Made.d5 (fun w0_1 h0 c_a c_n c_c l_a l_n l_c m out_a out_n out_c n i => P5 w0_1 h0 c_a c_n c_c l_a l_n l_c m out_a out_n out_c n i w) ρ)]) (leaf_of (fn := Go.Proofs.Try.f18) [5] (by kernel_rfl) ⟨fun ρ w h => by obtain ⟨w0_1, h0, c_a, c_n, c_c, l_a, l_n, l_c, m, out_a, out_n, out_c, n, i, e0, e1, e2, e3, e9, e10, e11, e12, h⟩ := herdsmanref26_Made.d5_elim (ρ := ρ) h; exact HP5 w0_1 h0 c_a c_n c_c l_a l_n l_c m out_a out_n out_c n i w h ρ e0 e1 e2 e3 e9 e10 e11 e12, trivial⟩) (castK h (by kernel_rfl))
set_option maxRecDepth 100000 in
theorem herdsmanref26_Made.f14 (P5 : Int → Int → Option Addr → Nat → Nat → Option Addr → Nat → Nat → Addr → Option Addr → Nat → Nat → Int → Int → World → Prop) (Q : Option Addr → Nat → Nat → World → Prop) (HP5 : ∀ w0_1 h0 c_a c_n c_c l_a l_n l_c m out_a out_n out_c n i w, P5 w0_1 h0 c_a c_n c_c l_a l_n l_c m out_a out_n out_c n i w → ∀ ρ : Env, ρ 0 = .int .i64 w0_1 → ρ 1 = .int .i64 h0 → ρ 2 = .slice c_a c_n c_c → ρ 3 = .slice l_a l_n l_c → ρ 9 = .pointer (some m) → ρ 10 = .slice out_a out_n out_c → ρ 11 = .int .i64 n → ρ 12 = .int .i64 i → Fin (cx 130) (todoOf Go.Proofs.Try.f18 5) ρ w (herdsmanref26_Made.R Q)) : ∀ w0_1 h0 c_a c_n c_c l_a l_n l_c m out_a out_n out_c n i o w, herdsmanref26_Made.b14 P5 Q w0_1 h0 c_a c_n c_c l_a l_n l_c m out_a out_n out_c n i o w → ∀ ρ : Env, ρ 0 = .int .i64 w0_1 → ρ 1 = .int .i64 h0 → ρ 2 = .slice c_a c_n c_c → ρ 3 = .slice l_a l_n l_c → ρ 9 = .pointer (some m) → ρ 10 = .slice out_a out_n out_c → ρ 11 = .int .i64 n → ρ 12 = .int .i64 i → ρ 14 = .pointer (some o) → Fin (cx 130) (todoOf Go.Proofs.Try.f18 14) ρ w (herdsmanref26_Made.R Q) := by
  intro w0_1 h0 c_a c_n c_c l_a l_n l_c m out_a out_n out_c n i o w h ρ e0 e1 e2 e3 e9 e10 e11 e12 e14
  refine Fin.cut (ρ' := put (put (put (put (put (put (put (put (put (ρ) (some 0) (.int .i64 w0_1)) (some 1) (.int .i64 h0)) (some 2) (.slice c_a c_n c_c)) (some 3) (.slice l_a l_n l_c)) (some 9) (.pointer (some m))) (some 10) (.slice out_a out_n out_c)) (some 11) (.int .i64 n)) (some 12) (.int .i64 i)) (some 14) (.pointer (some o))) ?_ (by rw [put_id e0, put_id e1, put_id e2, put_id e3, put_id e9, put_id e10, put_id e11, put_id e12, put_id e14])
  refine evT_sound (ok 130) (drawD_sound (ok 130) herdsmanref26_Made.scr) 600 (L := [(35, fun ρ w => herdsmanref26_Made.d35 (fun w0_1 h0 c_a c_n c_c l_a l_n l_c m out_a out_n out_c n i o => herdsmanref26_Made.b35 P5 Q w0_1 h0 c_a c_n c_c l_a l_n l_c m out_a out_n out_c n i o w) ρ)]) (leaf_of (fn := Go.Proofs.Try.f18) [35] (by kernel_rfl) ⟨fun ρ w h => by obtain ⟨w0_1, h0, c_a, c_n, c_c, l_a, l_n, l_c, m, out_a, out_n, out_c, n, i, o, e0, e1, e2, e3, e9, e10, e11, e12, e14, h⟩ := herdsmanref26_Made.d35_elim (ρ := ρ) h; exact herdsmanref26_Made.f35 P5 Q HP5 w0_1 h0 c_a c_n c_c l_a l_n l_c m out_a out_n out_c n i o w h ρ e0 e1 e2 e3 e9 e10 e11 e12 e14, trivial⟩) (castK h (by kernel_rfl))
set_option maxRecDepth 100000 in
theorem herdsmanref26_Made.f21 (P5 : Int → Int → Option Addr → Nat → Nat → Option Addr → Nat → Nat → Addr → Option Addr → Nat → Nat → Int → Int → World → Prop) (Q : Option Addr → Nat → Nat → World → Prop) (HP5 : ∀ w0_1 h0 c_a c_n c_c l_a l_n l_c m out_a out_n out_c n i w, P5 w0_1 h0 c_a c_n c_c l_a l_n l_c m out_a out_n out_c n i w → ∀ ρ : Env, ρ 0 = .int .i64 w0_1 → ρ 1 = .int .i64 h0 → ρ 2 = .slice c_a c_n c_c → ρ 3 = .slice l_a l_n l_c → ρ 9 = .pointer (some m) → ρ 10 = .slice out_a out_n out_c → ρ 11 = .int .i64 n → ρ 12 = .int .i64 i → Fin (cx 130) (todoOf Go.Proofs.Try.f18 5) ρ w (herdsmanref26_Made.R Q)) : ∀ w0_1 h0 c_a c_n c_c l_a l_n l_c m out_a out_n out_c n i x o w, herdsmanref26_Made.b21 P5 Q w0_1 h0 c_a c_n c_c l_a l_n l_c m out_a out_n out_c n i x o w → ∀ ρ : Env, ρ 0 = .int .i64 w0_1 → ρ 1 = .int .i64 h0 → ρ 2 = .slice c_a c_n c_c → ρ 3 = .slice l_a l_n l_c → ρ 9 = .pointer (some m) → ρ 10 = .slice out_a out_n out_c → ρ 11 = .int .i64 n → ρ 12 = .int .i64 i → ρ 13 = .pointer (some x) → ρ 14 = .pointer (some o) → Fin (cx 130) (todoOf Go.Proofs.Try.f18 21) ρ w (herdsmanref26_Made.R Q) := by
  intro w0_1 h0 c_a c_n c_c l_a l_n l_c m out_a out_n out_c n i x o w h ρ e0 e1 e2 e3 e9 e10 e11 e12 e13 e14
  refine Fin.cut (ρ' := put (put (put (put (put (put (put (put (put (put (ρ) (some 0) (.int .i64 w0_1)) (some 1) (.int .i64 h0)) (some 2) (.slice c_a c_n c_c)) (some 3) (.slice l_a l_n l_c)) (some 9) (.pointer (some m))) (some 10) (.slice out_a out_n out_c)) (some 11) (.int .i64 n)) (some 12) (.int .i64 i)) (some 13) (.pointer (some x))) (some 14) (.pointer (some o))) ?_ (by rw [put_id e0, put_id e1, put_id e2, put_id e3, put_id e9, put_id e10, put_id e11, put_id e12, put_id e13, put_id e14])
  refine evT_sound (ok 130) (drawD_sound (ok 130) herdsmanref26_Made.scr) 600 (L := [(35, fun ρ w => herdsmanref26_Made.d35 (fun w0_1 h0 c_a c_n c_c l_a l_n l_c m out_a out_n out_c n i o => herdsmanref26_Made.b35 P5 Q w0_1 h0 c_a c_n c_c l_a l_n l_c m out_a out_n out_c n i o w) ρ)]) (leaf_of (fn := Go.Proofs.Try.f18) [35] (by kernel_rfl) ⟨fun ρ w h => by obtain ⟨w0_1, h0, c_a, c_n, c_c, l_a, l_n, l_c, m, out_a, out_n, out_c, n, i, o, e0, e1, e2, e3, e9, e10, e11, e12, e14, h⟩ := herdsmanref26_Made.d35_elim (ρ := ρ) h; exact herdsmanref26_Made.f35 P5 Q HP5 w0_1 h0 c_a c_n c_c l_a l_n l_c m out_a out_n out_c n i o w h ρ e0 e1 e2 e3 e9 e10 e11 e12 e14, trivial⟩) (castK h (by kernel_rfl))
set_option maxRecDepth 100000 in
theorem herdsmanref26_Made.f9 (P5 : Int → Int → Option Addr → Nat → Nat → Option Addr → Nat → Nat → Addr → Option Addr → Nat → Nat → Int → Int → World → Prop) (Q : Option Addr → Nat → Nat → World → Prop) (HP5 : ∀ w0_1 h0 c_a c_n c_c l_a l_n l_c m out_a out_n out_c n i w, P5 w0_1 h0 c_a c_n c_c l_a l_n l_c m out_a out_n out_c n i w → ∀ ρ : Env, ρ 0 = .int .i64 w0_1 → ρ 1 = .int .i64 h0 → ρ 2 = .slice c_a c_n c_c → ρ 3 = .slice l_a l_n l_c → ρ 9 = .pointer (some m) → ρ 10 = .slice out_a out_n out_c → ρ 11 = .int .i64 n → ρ 12 = .int .i64 i → Fin (cx 130) (todoOf Go.Proofs.Try.f18 5) ρ w (herdsmanref26_Made.R Q)) : ∀ w0_1 h0 c_a c_n c_c l_a l_n l_c m out_a out_n out_c n i x o w, herdsmanref26_Made.b9 P5 Q w0_1 h0 c_a c_n c_c l_a l_n l_c m out_a out_n out_c n i x o w → ∀ ρ : Env, ρ 0 = .int .i64 w0_1 → ρ 1 = .int .i64 h0 → ρ 2 = .slice c_a c_n c_c → ρ 3 = .slice l_a l_n l_c → ρ 9 = .pointer (some m) → ρ 10 = .slice out_a out_n out_c → ρ 11 = .int .i64 n → ρ 12 = .int .i64 i → ρ 13 = .pointer (some x) → ρ 14 = .pointer (some o) → Fin (cx 130) (todoOf Go.Proofs.Try.f18 9) ρ w (herdsmanref26_Made.R Q) := by
  intro w0_1 h0 c_a c_n c_c l_a l_n l_c m out_a out_n out_c n i x o w h ρ e0 e1 e2 e3 e9 e10 e11 e12 e13 e14
  refine Fin.cut (ρ' := put (put (put (put (put (put (put (put (put (put (ρ) (some 0) (.int .i64 w0_1)) (some 1) (.int .i64 h0)) (some 2) (.slice c_a c_n c_c)) (some 3) (.slice l_a l_n l_c)) (some 9) (.pointer (some m))) (some 10) (.slice out_a out_n out_c)) (some 11) (.int .i64 n)) (some 12) (.int .i64 i)) (some 13) (.pointer (some x))) (some 14) (.pointer (some o))) ?_ (by rw [put_id e0, put_id e1, put_id e2, put_id e3, put_id e9, put_id e10, put_id e11, put_id e12, put_id e13, put_id e14])
  refine evT_sound (ok 130) (drawD_sound (ok 130) herdsmanref26_Made.scr) 600 (L := [(14, fun ρ w => herdsmanref26_Made.d14 (fun w0_1 h0 c_a c_n c_c l_a l_n l_c m out_a out_n out_c n i o => herdsmanref26_Made.b14 P5 Q w0_1 h0 c_a c_n c_c l_a l_n l_c m out_a out_n out_c n i o w) ρ), (21, fun ρ w => herdsmanref26_Made.d21 (fun w0_1 h0 c_a c_n c_c l_a l_n l_c m out_a out_n out_c n i x o => herdsmanref26_Made.b21 P5 Q w0_1 h0 c_a c_n c_c l_a l_n l_c m out_a out_n out_c n i x o w) ρ), (35, fun ρ w => herdsmanref26_Made.d35 (fun w0_1 h0 c_a c_n c_c l_a l_n l_c m out_a out_n out_c n i o => herdsmanref26_Made.b35 P5 Q w0_1 h0 c_a c_n c_c l_a l_n l_c m out_a out_n out_c n i o w) ρ)]) (leaf_of (fn := Go.Proofs.Try.f18) [14, 35, 35, 21, 35, 35, 35, 35, 35, 35, 35, 35, 35, 35, 35, 35, 21, 35, 35, 35, 35, 35, 35, 35, 35, 35, 35, 35, 35, 14, 35, 35, 21, 35, 35, 35, 35, 35, 35, 35, 35, 35, 35, 35, 35, 21, 35, 35, 35, 35, 35, 35, 35, 35, 35, 35, 35, 35, 14, 35, 35, 21, 35, 35, 35, 35, 35, 35, 35, 35, 35, 35, 35, 35, 21, 35, 35, 35, 35, 35, 35, 35, 35, 35, 35, 35, 35] (by kernel_rfl) ⟨fun ρ w h => by obtain ⟨w0_1, h0, c_a, c_n, c_c, l_a, l_n, l_c, m, out_a, out_n, out_c, n, i, o, e0, e1, e2, e3, e9, e10, e11, e12, e14, h⟩ := herdsmanref26_Made.d14_elim (ρ := ρ) h; exact herdsmanref26_Made.f14 P5 Q HP5 w0_1 h0 c_a c_n c_c l_a l_n l_c m out_a out_n out_c n i o w h ρ e0 e1 e2 e3 e9 e10 e11 e12 e14, fun ρ w h => by obtain ⟨w0_1, h0, c_a, c_n, c_c, l_a, l_n, l_c, m, out_a, out_n, out_c, n, i, x, o, e0, e1, e2, e3, e9, e10, e11, e12, e13, e14, h⟩ := herdsmanref26_Made.d21_elim (ρ := ρ) h; exact herdsmanref26_Made.f21 P5 Q HP5 w0_1 h0 c_a c_n c_c l_a l_n l_c m out_a out_n out_c n i x o w h ρ e0 e1 e2 e3 e9 e10 e11 e12 e13 e14, fun ρ w h => by obtain ⟨w0_1, h0, c_a, c_n, c_c, l_a, l_n, l_c, m, out_a, out_n, out_c, n, i, o, e0, e1, e2, e3, e9, e10, e11, e12, e14, h⟩ := herdsmanref26_Made.d35_elim (ρ := ρ) h; exact herdsmanref26_Made.f35 P5 Q HP5 w0_1 h0 c_a c_n c_c l_a l_n l_c m out_a out_n out_c n i o w h ρ e0 e1 e2 e3 e9 e10 e11 e12 e14, trivial⟩) (castK h (by kernel_rfl))
set_option maxRecDepth 100000 in
theorem herdsmanref26_Made.f5 (Q : Option Addr → Nat → Nat → World → Prop) : ∀ k w0_1 h0 c_a c_n c_c l_a l_n l_c m out_a out_n out_c n i w, herdsmanref26_Made.b5 Q k w0_1 h0 c_a c_n c_c l_a l_n l_c m out_a out_n out_c n i w → ∀ ρ : Env, ρ 0 = .int .i64 w0_1 → ρ 1 = .int .i64 h0 → ρ 2 = .slice c_a c_n c_c → ρ 3 = .slice l_a l_n l_c → ρ 9 = .pointer (some m) → ρ 10 = .slice out_a out_n out_c → ρ 11 = .int .i64 n → ρ 12 = .int .i64 i → Fin (cx 130) (todoOf Go.Proofs.Try.f18 5) ρ w (herdsmanref26_Made.R Q) := by
  intro k
  induction k with
  | zero => intro w0_1 h0 c_a c_n c_c l_a l_n l_c m out_a out_n out_c n i w h; exact h.elim
  | succ k ih =>
    intro w0_1 h0 c_a c_n c_c l_a l_n l_c m out_a out_n out_c n i w h ρ e0 e1 e2 e3 e9 e10 e11 e12
    have h : herdsmanref26_Made.s5 Q (herdsmanref26_Made.b5 Q k) w0_1 h0 c_a c_n c_c l_a l_n l_c m out_a out_n out_c n i w := h
    refine Fin.cut (ρ' := put (put (put (put (put (put (put (put (ρ) (some 0) (.int .i64 w0_1)) (some 1) (.int .i64 h0)) (some 2) (.slice c_a c_n c_c)) (some 3) (.slice l_a l_n l_c)) (some 9) (.pointer (some m))) (some 10) (.slice out_a out_n out_c)) (some 11) (.int .i64 n)) (some 12) (.int .i64 i)) ?_ (by rw [put_id e0, put_id e1, put_id e2, put_id e3, put_id e9, put_id e10, put_id e11, put_id e12])
    refine evT_sound (ok 130) (drawD_sound (ok 130) herdsmanref26_Made.scr) 600 (L := [(9, fun ρ w => herdsmanref26_Made.d9 (fun w0_1 h0 c_a c_n c_c l_a l_n l_c m out_a out_n out_c n i x o => herdsmanref26_Made.b9 (herdsmanref26_Made.b5 Q k) Q w0_1 h0 c_a c_n c_c l_a l_n l_c m out_a out_n out_c n i x o w) ρ)]) (leaf_of (fn := Go.Proofs.Try.f18) [9] (by kernel_rfl) ⟨fun ρ w h => by obtain ⟨w0_1, h0, c_a, c_n, c_c, l_a, l_n, l_c, m, out_a, out_n, out_c, n, i, x, o, e0, e1, e2, e3, e9, e10, e11, e12, e13, e14, h⟩ := herdsmanref26_Made.d9_elim (ρ := ρ) h; exact herdsmanref26_Made.f9 (herdsmanref26_Made.b5 Q k) Q ih w0_1 h0 c_a c_n c_c l_a l_n l_c m out_a out_n out_c n i x o w h ρ e0 e1 e2 e3 e9 e10 e11 e12 e13 e14, trivial⟩) (castK h (by kernel_rfl))
set_option maxRecDepth 100000 in
theorem herdsmanref26_Made.body (w0_1 : Int) (h0 : Int) (c_a : Option Addr) (c_n : Nat) (c_c : Nat) (l_a : Option Addr) (l_n : Nat) (l_c : Nat) (w : World) (Q : Option Addr → Nat → Nat → World → Prop) (h : herdsmanref26_Made.sh w0_1 h0 c_a c_n c_c l_a l_n l_c w Q) : herdsmanref26_Made.call w0_1 h0 c_a c_n c_c l_a l_n l_c w Q := by
  refine call_fn (ok 130) (fn := Go.Proofs.Try.f18) (args := [.int .i64 w0_1, .int .i64 h0, .slice c_a c_n c_c, .slice l_a l_n l_c]) (K := herdsmanref26_Made.qv Q) Go.Proofs.Try.func18 (by kernel_rfl) (by kernel_rfl) (by kernel_rfl) ?_
  refine evT_sound (ok 130) (drawD_sound (ok 130) herdsmanref26_Made.scr) 600 (L := [(5, fun ρ w => herdsmanref26_Made.d5 (fun w0_1 h0 c_a c_n c_c l_a l_n l_c m out_a out_n out_c n i => ∃ k', herdsmanref26_Made.b5 Q k' w0_1 h0 c_a c_n c_c l_a l_n l_c m out_a out_n out_c n i w) ρ)]) (leaf_of (fn := Go.Proofs.Try.f18) [5] (by kernel_rfl) ⟨fun ρ w h => by obtain ⟨w0_1, h0, c_a, c_n, c_c, l_a, l_n, l_c, m, out_a, out_n, out_c, n, i, e0, e1, e2, e3, e9, e10, e11, e12, h⟩ := herdsmanref26_Made.d5_elim (ρ := ρ) h; obtain ⟨k', h⟩ := h; exact herdsmanref26_Made.f5 Q k' w0_1 h0 c_a c_n c_c l_a l_n l_c m out_a out_n out_c n i w h ρ e0 e1 e2 e3 e9 e10 e11 e12, trivial⟩) (castK h (by kernel_rfl))
/-! ### 6 herdsman/herdsmanlaw26.OpBack -/
def herdsmanlaw26_OpBack.sh (w0_1 : Int) (h0 : Int) (c_a : Option Addr) (c_n : Nat) (c_c : Nat) (l_a : Option Addr) (l_n : Nat) (l_c : Nat) (cut : Int) (w : World) (Q : Bool → World → Prop) : Prop :=
  SlK l_a l_n l_c 3 none (some (imin (l_n : Int) 40)) fun s25_a s25_n s25_c =>
  herdsmanref26_Made.call w0_1 h0 c_a c_n c_c s25_a s25_n s25_c w fun r26_a r26_n r26_c w0_2 =>
  herdsmanref1_Within.call cut 0 (r26_n : Int) w0_2 fun r30 w0_3 =>
  SlK r26_a r26_n r26_c 4 none (some r30) fun s34_a s34_n s34_c =>
  op_Encode.call s34_a s34_n s34_c w0_3 fun r35_0_a r35_0_n r35_0_c r35_1 w0_4 =>
  SlK r26_a r26_n r26_c 4 (some r30) none fun s41_a s41_n s41_c =>
  op_Encode.call s41_a s41_n s41_c w0_4 fun r42_0_a r42_0_n r42_0_c r42_1 w0_5 =>
  cond (r35_1 != 0)
  (Q false w0_5)
  (cond (r42_1 != 0)
  (Q false w0_5)
  (Bx [] 5 w0_5 fun p51_s w0_6 =>
  App P #[22, 22] 22 (.slice (some p51_s) 0 0) (.slice r35_0_a r35_0_n r35_0_c) w0_6 fun r53_a r53_n r53_c w0_7 =>
  App P #[22, 22] 22 (.slice r53_a r53_n r53_c) (.slice r42_0_a r42_0_n r42_0_c) w0_7 fun r55_a r55_n r55_c w0_8 =>
  op_Decode.call r55_a r55_n r55_c w0_8 fun r56_a r56_n r56_c w0_9 =>
  herdsmanlaw26_told.call w0_9.drew fun r57 w0_10 =>
  cond r57
  (herdsmanref26_SameAll.call r56_a r56_n r56_c r26_a r26_n r26_c w0_10 fun r61 w0_11 =>
  cond r61
  (SlK r26_a r26_n r26_c 4 none (some r30) fun s68_a s68_n s68_c =>
  op_Decode.call r35_0_a r35_0_n r35_0_c w0_11 fun r65_a r65_n r65_c w0_12 =>
  herdsmanref26_SameAll.call r65_a r65_n r65_c s68_a s68_n s68_c w0_12 fun r69 w0_13 =>
  Q r69 w0_13)
  (Q false w0_11))
  (Q false w0_10)))
noncomputable def herdsmanlaw26_OpBack.scr : Scrs := [(8, .op 0 (.op 1 (.op 2 (.op 3 (.op 4 (.op 5 (.op 6 (.op 7 (.op 9 (.op 10 (.op 11 (.op 8 (.op 12 (.op 13 (.op 14 .done)))))))))))))))]
def herdsmanlaw26_OpBack.R (Q : Bool → World → Prop) (ρ : Env) (w : World) : Prop := evRes (cx 71) Go.Proofs.Try.f6.results.toList ρ w fun vs => herdsmanlaw26_OpBack.qv Q (resV vs) w
set_option maxRecDepth 100000 in
theorem herdsmanlaw26_OpBack.body (w0_1 : Int) (h0 : Int) (c_a : Option Addr) (c_n : Nat) (c_c : Nat) (l_a : Option Addr) (l_n : Nat) (l_c : Nat) (cut : Int) (w : World) (Q : Bool → World → Prop) (h : herdsmanlaw26_OpBack.sh w0_1 h0 c_a c_n c_c l_a l_n l_c cut w Q) : herdsmanlaw26_OpBack.call w0_1 h0 c_a c_n c_c l_a l_n l_c cut w Q := by
  refine call_fn (ok 71) (fn := Go.Proofs.Try.f6) (args := [.int .i64 w0_1, .int .i64 h0, .slice c_a c_n c_c, .slice l_a l_n l_c, .int .i64 cut]) (K := herdsmanlaw26_OpBack.qv Q) Go.Proofs.Try.func6 (by kernel_rfl) (by kernel_rfl) (by kernel_rfl) ?_
  refine evT_sound (ok 71) (drawD_sound (ok 71) herdsmanlaw26_OpBack.scr) 600 (L := []) (leaf_of (fn := Go.Proofs.Try.f6) [] (by kernel_rfl) trivial) (castK h (by kernel_rfl))
/-! ### 7 herdsman/herdsmanlaw26.OpCuts -/
def herdsmanlaw26_OpCuts.b18 (Q : Bool → World → Prop) (x_a : Option Addr) (x_n : Nat) (x_c : Nat) (y_a : Option Addr) (y_n : Nat) (y_c : Nat) (whole : Int) (w : World) : Prop :=
  herdsmanlaw26_told.call w fun r126 w0_1 =>
  cond r126
  (SlK x_a x_n x_c 4 none (some whole) fun s131_a s131_n s131_c =>
  herdsmanref26_SameAll.call y_a y_n y_c s131_a s131_n s131_c w0_1 fun r132 w0_2 =>
  Q r132 w0_2)
  (Q false w0_1)
def herdsmanlaw26_OpCuts.s9 (Q : Bool → World → Prop) (R9 : Option Addr → Nat → Nat → Option Addr → Nat → Nat → Int → Option Addr → Nat → Nat → Int → Int → World → Prop) (x_a : Option Addr) (x_n : Nat) (x_c : Nat) (b_a : Option Addr) (b_n : Nat) (b_c : Nat) (n : Int) (y_a : Option Addr) (y_n : Nat) (y_c : Nat) (whole : Int) (at0 : Int) (w : World) : Prop :=
  cond (decide (whole < (x_n : Int)))
  (SlK x_a x_n x_c 4 (some whole) (some (IntKind.wrap .i64 (whole + 1))) fun s57_a s57_n s57_c =>
  op_Encode.call s57_a s57_n s57_c w fun r58_0_a r58_0_n r58_0_c r58_1 w0_1 =>
  cond (r58_1 != 0)
  (Q false w0_1)
  (cond ((r58_0_n : Int) == 0)
  (Q false w0_1)
  (cond (decide ((IntKind.wrap .i64 (at0 + (r58_0_n : Int))) > n))
  (cond (at0 == n)
  (herdsmanlaw26_OpCuts.b18 Q x_a x_n x_c y_a y_n y_c whole w0_1)
  (herdsmanlaw26_told.call w0_1.drew fun r77 w0_2 =>
  cond r77
  (cond ((y_n : Int) == (IntKind.wrap .i64 (whole + 1)))
  (SlK y_a y_n y_c 4 none (some whole) fun s88_a s88_n s88_c =>
  SlK x_a x_n x_c 4 none (some whole) fun s91_a s91_n s91_c =>
  herdsmanref26_SameAll.call s88_a s88_n s88_c s91_a s91_n s91_c w0_2 fun r92 w0_3 =>
  cond r92
  (InB whole y_n <|
  wA y_a fun p =>
  LdI .i64 (p.add (whole.toNat * 4)) w0_3 fun x99 =>
  cond (x99 == 0)
  (InB whole y_n <|
  wA y_a fun p_1 =>
  LdI .i64 ((p_1.add (whole.toNat * 4)).add 1) w0_3 fun x107 =>
  cond (x107 == (-1))
  (InB whole y_n <|
  wA y_a fun p_2 =>
  LdS ((p_2.add (whole.toNat * 4)).add 3) w0_3 fun x115_a x115_n x115_c =>
  SlK b_a b_n b_c 1 (some at0) (some n) fun s119_a s119_n s119_c =>
  herdsmanref1_Bytes.call x115_a x115_n x115_c s119_a s119_n s119_c w0_3 fun r120 w0_4 =>
  Q r120 w0_4)
  (Q false w0_3))
  (Q false w0_3))
  (Q false w0_3))
  (Q false w0_2))
  (Q false w0_2)))
  (R9 x_a x_n x_c b_a b_n b_c n y_a y_n y_c (IntKind.wrap .i64 (whole + 1)) (IntKind.wrap .i64 (at0 + (r58_0_n : Int))) w0_1))))
  (herdsmanlaw26_OpCuts.b18 Q x_a x_n x_c y_a y_n y_c whole w)
def herdsmanlaw26_OpCuts.b9 (Q : Bool → World → Prop) : Nat → Option Addr → Nat → Nat → Option Addr → Nat → Nat → Int → Option Addr → Nat → Nat → Int → Int → World → Prop
  | 0, _, _, _, _, _, _, _, _, _, _, _, _, _ => False
  | k + 1, x_a, x_n, x_c, b_a, b_n, b_c, n, y_a, y_n, y_c, whole, at0, w => herdsmanlaw26_OpCuts.s9 Q (herdsmanlaw26_OpCuts.b9 Q k) x_a x_n x_c b_a b_n b_c n y_a y_n y_c whole at0 w
def herdsmanlaw26_OpCuts.sh (w0_1 : Int) (h0 : Int) (c_a : Option Addr) (c_n : Nat) (c_c : Nat) (l_a : Option Addr) (l_n : Nat) (l_c : Nat) (cut : Int) (w : World) (Q : Bool → World → Prop) : Prop :=
  SlK l_a l_n l_c 3 none (some (imin (l_n : Int) 20)) fun s29_a s29_n s29_c =>
  herdsmanref1_Within.call w0_1 1 9 w.drew fun r21 w0_2 =>
  herdsmanref1_Within.call h0 1 9 w0_2 fun r23 w0_3 =>
  herdsmanref26_Made.call r21 r23 c_a c_n c_c s29_a s29_n s29_c w0_3 fun r30_a r30_n r30_c w0_4 =>
  op_Encode.call r30_a r30_n r30_c w0_4 fun r33_0_a r33_0_n r33_0_c r33_1 w0_5 =>
  cond (r33_1 != 0)
  (Q false w0_5)
  (herdsmanref1_Within.call cut 0 (r33_0_n : Int) w0_5 fun r41 w0_6 =>
  SlK r33_0_a r33_0_n r33_0_c 1 none (some r41) fun s44_a s44_n s44_c =>
  op_Decode.call s44_a s44_n s44_c w0_6 fun r45_a r45_n r45_c w0_7 =>
  ∃ k', herdsmanlaw26_OpCuts.b9 Q k' r30_a r30_n r30_c r33_0_a r33_0_n r33_0_c r41 r45_a r45_n r45_c 0 0 w0_7)
noncomputable def herdsmanlaw26_OpCuts.scr : Scrs := [(1, .op 0 (.op 2 (.op 4 (.op 5 (.op 6 (.op 7 (.op 8 (.op 9 (.op 1 (.op 3 (.op 10 (.op 11 .done)))))))))))), (16, .op 0 (.op 1 (.op 2 (.op 3 (.op 4 (.op 5 (.op 6 (.op 7 (.op 8 (.op 9 (.op 10 (.op 11 (.op 12 (.op 13 (.op 14 (.op 15 (.op 16 (.op 17 (.op 18 (.op 19 (.op 20 (.op 21 (.op 22 (.op 23 (.op 24 (.op 25 (.op 26 (.op 27 (.op 28 (.op 29 (.op 30 (.op 31 (.op 32 (.op 33 (.op 34 (.op 35 (.op 36 (.op 37 (.op 38 (.op 39 (.op 40 (.op 41 (.op 42 (.op 43 (.op 44 (.op 45 .done))))))))))))))))))))))))))))))))))))))))))))))]
def herdsmanlaw26_OpCuts.R (Q : Bool → World → Prop) (ρ : Env) (w : World) : Prop := evRes (cx 134) Go.Proofs.Try.f7.results.toList ρ w fun vs => herdsmanlaw26_OpCuts.qv Q (resV vs) w
def herdsmanlaw26_OpCuts.d9 (K : Option Addr → Nat → Nat → Option Addr → Nat → Nat → Int → Option Addr → Nat → Nat → Int → Int → Prop) (ρ : Env) : Prop :=
  dS (ρ 11) fun x_a x_n x_c => dS (ρ 12) fun b_a b_n b_c => dI .i64 (ρ 14) fun n => dS (ρ 15) fun y_a y_n y_c => dI .i64 (ρ 16) fun whole => dI .i64 (ρ 17) fun at0 => K x_a x_n x_c b_a b_n b_c n y_a y_n y_c whole at0
theorem herdsmanlaw26_OpCuts.d9_elim {K : Option Addr → Nat → Nat → Option Addr → Nat → Nat → Int → Option Addr → Nat → Nat → Int → Int → Prop} {ρ : Env} (h0 : herdsmanlaw26_OpCuts.d9 K ρ) : ∃ (x_a : Option Addr) (x_n : Nat) (x_c : Nat) (b_a : Option Addr) (b_n : Nat) (b_c : Nat) (n : Int) (y_a : Option Addr) (y_n : Nat) (y_c : Nat) (whole : Int) (at0 : Int), ρ 11 = .slice x_a x_n x_c ∧ ρ 12 = .slice b_a b_n b_c ∧ ρ 14 = .int .i64 n ∧ ρ 15 = .slice y_a y_n y_c ∧ ρ 16 = .int .i64 whole ∧ ρ 17 = .int .i64 at0 ∧ K x_a x_n x_c b_a b_n b_c n y_a y_n y_c whole at0 := by
  obtain ⟨x_a, x_n, x_c, e11, h1⟩ := dS_elim h0
  obtain ⟨b_a, b_n, b_c, e12, h2⟩ := dS_elim h1
  obtain ⟨n, e14, h3⟩ := dI_elim h2
  obtain ⟨y_a, y_n, y_c, e15, h4⟩ := dS_elim h3
  obtain ⟨whole, e16, h5⟩ := dI_elim h4
  obtain ⟨at0, e17, h6⟩ := dI_elim h5
  exact ⟨x_a, x_n, x_c, b_a, b_n, b_c, n, y_a, y_n, y_c, whole, at0, e11, e12, e14, e15, e16, e17, h6⟩
def herdsmanlaw26_OpCuts.d18 (K : Option Addr → Nat → Nat → Option Addr → Nat → Nat → Int → Prop) (ρ : Env) : Prop :=
  dS (ρ 11) fun x_a x_n x_c => dS (ρ 15) fun y_a y_n y_c => dI .i64 (ρ 16) fun whole => K x_a x_n x_c y_a y_n y_c whole
theorem herdsmanlaw26_OpCuts.d18_elim {K : Option Addr → Nat → Nat → Option Addr → Nat → Nat → Int → Prop} {ρ : Env} (h0 : herdsmanlaw26_OpCuts.d18 K ρ) : ∃ (x_a : Option Addr) (x_n : Nat) (x_c : Nat) (y_a : Option Addr) (y_n : Nat) (y_c : Nat) (whole : Int), ρ 11 = .slice x_a x_n x_c ∧ ρ 15 = .slice y_a y_n y_c ∧ ρ 16 = .int .i64 whole ∧ K x_a x_n x_c y_a y_n y_c whole := by
  obtain ⟨x_a, x_n, x_c, e11, h1⟩ := dS_elim h0
  obtain ⟨y_a, y_n, y_c, e15, h2⟩ := dS_elim h1
  obtain ⟨whole, e16, h3⟩ := dI_elim h2
  exact ⟨x_a, x_n, x_c, y_a, y_n, y_c, whole, e11, e15, e16, h3⟩
set_option maxRecDepth 100000 in
theorem herdsmanlaw26_OpCuts.f18 (Q : Bool → World → Prop) : ∀ x_a x_n x_c y_a y_n y_c whole w, herdsmanlaw26_OpCuts.b18 Q x_a x_n x_c y_a y_n y_c whole w → ∀ ρ : Env, ρ 11 = .slice x_a x_n x_c → ρ 15 = .slice y_a y_n y_c → ρ 16 = .int .i64 whole → Fin (cx 134) (todoOf Go.Proofs.Try.f7 18) ρ w (herdsmanlaw26_OpCuts.R Q) := by
  intro x_a x_n x_c y_a y_n y_c whole w h ρ e11 e15 e16
  refine Fin.cut (ρ' := put (put (put (ρ) (some 11) (.slice x_a x_n x_c)) (some 15) (.slice y_a y_n y_c)) (some 16) (.int .i64 whole)) ?_ (by rw [put_id e11, put_id e15, put_id e16])
  refine evT_sound (ok 134) (drawD_sound (ok 134) herdsmanlaw26_OpCuts.scr) 600 (L := []) (leaf_of (fn := Go.Proofs.Try.f7) [] (by kernel_rfl) trivial) (castK h (by kernel_rfl))
set_option maxRecDepth 100000 in
theorem herdsmanlaw26_OpCuts.f9 (Q : Bool → World → Prop) : ∀ k x_a x_n x_c b_a b_n b_c n y_a y_n y_c whole at0 w, herdsmanlaw26_OpCuts.b9 Q k x_a x_n x_c b_a b_n b_c n y_a y_n y_c whole at0 w → ∀ ρ : Env, ρ 11 = .slice x_a x_n x_c → ρ 12 = .slice b_a b_n b_c → ρ 14 = .int .i64 n → ρ 15 = .slice y_a y_n y_c → ρ 16 = .int .i64 whole → ρ 17 = .int .i64 at0 → Fin (cx 134) (todoOf Go.Proofs.Try.f7 9) ρ w (herdsmanlaw26_OpCuts.R Q) := by
  intro k
  induction k with
  | zero => intro x_a x_n x_c b_a b_n b_c n y_a y_n y_c whole at0 w h; exact h.elim
  | succ k ih =>
    intro x_a x_n x_c b_a b_n b_c n y_a y_n y_c whole at0 w h ρ e11 e12 e14 e15 e16 e17
    have h : herdsmanlaw26_OpCuts.s9 Q (herdsmanlaw26_OpCuts.b9 Q k) x_a x_n x_c b_a b_n b_c n y_a y_n y_c whole at0 w := h
    refine Fin.cut (ρ' := put (put (put (put (put (put (ρ) (some 11) (.slice x_a x_n x_c)) (some 12) (.slice b_a b_n b_c)) (some 14) (.int .i64 n)) (some 15) (.slice y_a y_n y_c)) (some 16) (.int .i64 whole)) (some 17) (.int .i64 at0)) ?_ (by rw [put_id e11, put_id e12, put_id e14, put_id e15, put_id e16, put_id e17])
    refine evT_sound (ok 134) (drawD_sound (ok 134) herdsmanlaw26_OpCuts.scr) 600 (L := [(9, fun ρ w => herdsmanlaw26_OpCuts.d9 (fun x_a x_n x_c b_a b_n b_c n y_a y_n y_c whole at0 => herdsmanlaw26_OpCuts.b9 Q k x_a x_n x_c b_a b_n b_c n y_a y_n y_c whole at0 w) ρ), (18, fun ρ w => herdsmanlaw26_OpCuts.d18 (fun x_a x_n x_c y_a y_n y_c whole => herdsmanlaw26_OpCuts.b18 Q x_a x_n x_c y_a y_n y_c whole w) ρ)]) (leaf_of (fn := Go.Proofs.Try.f7) [18, 9, 18] (by kernel_rfl) ⟨fun ρ w h => by obtain ⟨x_a, x_n, x_c, b_a, b_n, b_c, n, y_a, y_n, y_c, whole, at0, e11, e12, e14, e15, e16, e17, h⟩ := herdsmanlaw26_OpCuts.d9_elim (ρ := ρ) h; exact ih x_a x_n x_c b_a b_n b_c n y_a y_n y_c whole at0 w h ρ e11 e12 e14 e15 e16 e17, fun ρ w h => by obtain ⟨x_a, x_n, x_c, y_a, y_n, y_c, whole, e11, e15, e16, h⟩ := herdsmanlaw26_OpCuts.d18_elim (ρ := ρ) h; exact herdsmanlaw26_OpCuts.f18 Q x_a x_n x_c y_a y_n y_c whole w h ρ e11 e15 e16, trivial⟩) (castK h (by kernel_rfl))
set_option maxRecDepth 100000 in
theorem herdsmanlaw26_OpCuts.body (w0_1 : Int) (h0 : Int) (c_a : Option Addr) (c_n : Nat) (c_c : Nat) (l_a : Option Addr) (l_n : Nat) (l_c : Nat) (cut : Int) (w : World) (Q : Bool → World → Prop) (h : herdsmanlaw26_OpCuts.sh w0_1 h0 c_a c_n c_c l_a l_n l_c cut w Q) : herdsmanlaw26_OpCuts.call w0_1 h0 c_a c_n c_c l_a l_n l_c cut w Q := by
  refine call_fn (ok 134) (fn := Go.Proofs.Try.f7) (args := [.int .i64 w0_1, .int .i64 h0, .slice c_a c_n c_c, .slice l_a l_n l_c, .int .i64 cut]) (K := herdsmanlaw26_OpCuts.qv Q) Go.Proofs.Try.func7 (by kernel_rfl) (by kernel_rfl) (by kernel_rfl) ?_
  refine evT_sound (ok 134) (drawD_sound (ok 134) herdsmanlaw26_OpCuts.scr) 600 (L := [(9, fun ρ w => herdsmanlaw26_OpCuts.d9 (fun x_a x_n x_c b_a b_n b_c n y_a y_n y_c whole at0 => ∃ k', herdsmanlaw26_OpCuts.b9 Q k' x_a x_n x_c b_a b_n b_c n y_a y_n y_c whole at0 w) ρ)]) (leaf_of (fn := Go.Proofs.Try.f7) [9] (by kernel_rfl) ⟨fun ρ w h => by obtain ⟨x_a, x_n, x_c, b_a, b_n, b_c, n, y_a, y_n, y_c, whole, at0, e11, e12, e14, e15, e16, e17, h⟩ := herdsmanlaw26_OpCuts.d9_elim (ρ := ρ) h; obtain ⟨k', h⟩ := h; exact herdsmanlaw26_OpCuts.f9 Q k' x_a x_n x_c b_a b_n b_c n y_a y_n y_c whole at0 w h ρ e11 e12 e14 e15 e16 e17, trivial⟩) (castK h (by kernel_rfl))
end Go.Proofs.Ytjndgflalbcngaa.S
