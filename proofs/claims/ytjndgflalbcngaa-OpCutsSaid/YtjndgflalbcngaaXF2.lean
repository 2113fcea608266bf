/- What the bodies ask, and that a call is no more. Printed by a program of this work (sxgen.py) out of the translation. -/
import Derived.Test.YtjndgflalbcngaaXT
set_option linter.unusedVariables false
set_option linter.unusedSimpArgs false
namespace Go.Proofs.Ytjndgflalbcngaa.S
open Go.Sx
/-! ### 5 herdsman/herdsmanlaw26.OpScripts -/
def herdsmanlaw26_OpScripts.s5 (Q : Bool → World → Prop) (R5 : Option Addr → Nat → Nat → Option Addr → Nat → Nat → Int → World → Prop) (b_a : Option Addr) (b_n : Nat) (b_c : Nat) (l_a : Option Addr) (l_n : Nat) (l_c : Nat) (i : Int) (w : World) : Prop :=
  cond (decide (i < (l_n : Int)))
  (InB i l_n <|
  wA l_a fun p =>
  LdI .i64 ((p.add (i.toNat * 4)).add 0) w fun x22_Kind =>
  LdI .i64 ((p.add (i.toNat * 4)).add 1) w fun x22_A =>
  LdI .i64 ((p.add (i.toNat * 4)).add 2) w fun x22_B =>
  LdS ((p.add (i.toNat * 4)).add 3) w fun x22_Map_a x22_Map_n x22_Map_c =>
  op_May.call x22_Kind x22_A x22_B x22_Map_a x22_Map_n x22_Map_c w fun r23 w0_1 =>
  cond (!r23)
  (Q false w0_1)
  (InB i l_n <|
  wA l_a fun p_1 =>
  LdI .i64 (p_1.add (i.toNat * 4)) w0_1 fun x30 =>
  cond (x30 == 0)
  (InB i l_n <|
  wA l_a fun p_2 =>
  LdI .i64 ((p_2.add (i.toNat * 4)).add 1) w0_1 fun x37 =>
  cond (x37 == (-1))
  (cond (decide (i < (IntKind.wrap .i64 ((l_n : Int) - 1))))
  (Q false w0_1)
  (R5 b_a b_n b_c l_a l_n l_c (IntKind.wrap .i64 (i + 1)) w0_1))
  (R5 b_a b_n b_c l_a l_n l_c (IntKind.wrap .i64 (i + 1)) w0_1))
  (R5 b_a b_n b_c l_a l_n l_c (IntKind.wrap .i64 (i + 1)) w0_1)))
  (op_Encode.call l_a l_n l_c w fun r50_0_a r50_0_n r50_0_c r50_1 w0_2 =>
  herdsmanlaw26_told.call w0_2 fun r53 w0_3 =>
  cond r53
  (cond (r50_1 == 0)
  (herdsmanref1_Bytes.call r50_0_a r50_0_n r50_0_c b_a b_n b_c w0_3 fun r61 w0_4 =>
  Q r61 w0_4)
  (Q false w0_3))
  (Q false w0_3))
def herdsmanlaw26_OpScripts.b5 (Q : Bool → World → Prop) : Nat → Option Addr → Nat → Nat → Option Addr → Nat → Nat → Int → World → Prop
  | 0, _, _, _, _, _, _, _, _ => False
  | k + 1, b_a, b_n, b_c, l_a, l_n, l_c, i, w => herdsmanlaw26_OpScripts.s5 Q (herdsmanlaw26_OpScripts.b5 Q k) b_a b_n b_c l_a l_n l_c i w
def herdsmanlaw26_OpScripts.sh (b_a : Option Addr) (b_n : Nat) (b_c : Nat) (w : World) (Q : Bool → World → Prop) : Prop :=
  cond (decide ((b_n : Int) > 600))
  (herdsmanlaw26_told.call w fun r10 w0_1 =>
  Q r10 w0_1)
  (op_Decode.call b_a b_n b_c w fun r12_a r12_n r12_c w0_2 =>
  ∃ k', herdsmanlaw26_OpScripts.b5 Q k' b_a b_n b_c r12_a r12_n r12_c 0 w0_2)
noncomputable def herdsmanlaw26_OpScripts.scr : Scrs := []
def herdsmanlaw26_OpScripts.R (Q : Bool → World → Prop) (ρ : Env) (w : World) : Prop := evRes (cx 63) Go.Proofs.Try.f5.results.toList ρ w fun vs => herdsmanlaw26_OpScripts.qv Q (resV vs) w
def herdsmanlaw26_OpScripts.d5 (K : Option Addr → Nat → Nat → Option Addr → Nat → Nat → Int → Prop) (ρ : Env) : Prop :=
  dS (ρ 0) fun b_a b_n b_c => dS (ρ 3) fun l_a l_n l_c => dI .i64 (ρ 4) fun i => K b_a b_n b_c l_a l_n l_c i
theorem herdsmanlaw26_OpScripts.d5_elim {K : Option Addr → Nat → Nat → Option Addr → Nat → Nat → Int → Prop} {ρ : Env} (h0 : herdsmanlaw26_OpScripts.d5 K ρ) : ∃ (b_a : Option Addr) (b_n : Nat) (b_c : Nat) (l_a : Option Addr) (l_n : Nat) (l_c : Nat) (i : Int), ρ 0 = .slice b_a b_n b_c ∧ ρ 3 = .slice l_a l_n l_c ∧ ρ 4 = .int .i64 i ∧ K b_a b_n b_c l_a l_n l_c i := by
  obtain ⟨b_a, b_n, b_c, e0, h1⟩ := dS_elim h0
  obtain ⟨l_a, l_n, l_c, e3, h2⟩ := dS_elim h1
  obtain ⟨i, e4, h3⟩ := dI_elim h2
  exact ⟨b_a, b_n, b_c, l_a, l_n, l_c, i, e0, e3, e4, h3⟩
set_option maxRecDepth 100000 in
theorem herdsmanlaw26_OpScripts.f5 (Q : Bool → World → Prop) : ∀ k b_a b_n b_c l_a l_n l_c i w, herdsmanlaw26_OpScripts.b5 Q k b_a b_n b_c l_a l_n l_c i w → ∀ ρ : Env, ρ 0 = .slice b_a b_n b_c → ρ 3 = .slice l_a l_n l_c → ρ 4 = .int .i64 i → Fin (cx 63) (todoOf Go.Proofs.Try.f5 5) ρ w (herdsmanlaw26_OpScripts.R Q) := by
  intro k
  induction k with
  | zero => intro b_a b_n b_c l_a l_n l_c i w h; exact h.elim
  | succ k ih =>
    intro b_a b_n b_c l_a l_n l_c i w h ρ e0 e3 e4
    have h : herdsmanlaw26_OpScripts.s5 Q (herdsmanlaw26_OpScripts.b5 Q k) b_a b_n b_c l_a l_n l_c i w := h
    refine Fin.cut (ρ' := put (put (put (ρ) (some 0) (.slice b_a b_n b_c)) (some 3) (.slice l_a l_n l_c)) (some 4) (.int .i64 i)) ?_ (by rw [put_id e0, put_id e3, put_id e4])
    refine evT_sound (ok 63) (drawD_sound (ok 63) herdsmanlaw26_OpScripts.scr) 600 (L := [(5, fun ρ w => herdsmanlaw26_OpScripts.d5 (fun b_a b_n b_c l_a l_n l_c i => herdsmanlaw26_OpScripts.b5 Q k b_a b_n b_c l_a l_n l_c i w) ρ)]) (leaf_of (fn := Go.Proofs.Try.f5) [5] (by kernel_rfl) ⟨fun ρ w h => by obtain ⟨b_a, b_n, b_c, l_a, l_n, l_c, i, e0, e3, e4, h⟩ := herdsmanlaw26_OpScripts.d5_elim (ρ := ρ) h; exact ih b_a b_n b_c l_a l_n l_c i w h ρ e0 e3 e4, trivial⟩) (castK h (by kernel_rfl))
set_option maxRecDepth 100000 in
theorem herdsmanlaw26_OpScripts.body (b_a : Option Addr) (b_n : Nat) (b_c : Nat) (w : World) (Q : Bool → World → Prop) (h : herdsmanlaw26_OpScripts.sh b_a b_n b_c w Q) : herdsmanlaw26_OpScripts.call b_a b_n b_c w Q := by
  refine call_fn (ok 63) (fn := Go.Proofs.Try.f5) (args := [.slice b_a b_n b_c]) (K := herdsmanlaw26_OpScripts.qv Q) Go.Proofs.Try.func5 (by kernel_rfl) (by kernel_rfl) (by kernel_rfl) ?_
  refine evT_sound (ok 63) (drawD_sound (ok 63) herdsmanlaw26_OpScripts.scr) 600 (L := [(5, fun ρ w => herdsmanlaw26_OpScripts.d5 (fun b_a b_n b_c l_a l_n l_c i => ∃ k', herdsmanlaw26_OpScripts.b5 Q k' b_a b_n b_c l_a l_n l_c i w) ρ)]) (leaf_of (fn := Go.Proofs.Try.f5) [5] (by kernel_rfl) ⟨fun ρ w h => by obtain ⟨b_a, b_n, b_c, l_a, l_n, l_c, i, e0, e3, e4, h⟩ := herdsmanlaw26_OpScripts.d5_elim (ρ := ρ) h; obtain ⟨k', h⟩ := h; exact herdsmanlaw26_OpScripts.f5 Q k' b_a b_n b_c l_a l_n l_c i w h ρ e0 e3 e4, trivial⟩) (castK h (by kernel_rfl))
/-! ### 31 herdsman/herdsmanref1.Cost -/
def herdsmanref1_Cost.sh (x : Int) (w : World) (Q : Int → World → Prop) : Prop :=
  NZ 8 <|
  cond ((Int.tmod x 8) == 7)
  (Q 255 w)
  (cond (decide (x < 160))
  (NZ 4 <|
  Q (IntKind.wrap .u8 (1 + (Int.tmod x 4))) w)
  (Q x w))
noncomputable def herdsmanref1_Cost.scr : Scrs := []
def herdsmanref1_Cost.R (Q : Int → World → Prop) (ρ : Env) (w : World) : Prop := evRes (cx 12) Go.Proofs.Try.f31.results.toList ρ w fun vs => herdsmanref1_Cost.qv Q (resV vs) w
set_option maxRecDepth 100000 in
theorem herdsmanref1_Cost.body (x : Int) (w : World) (Q : Int → World → Prop) (h : herdsmanref1_Cost.sh x w Q) : herdsmanref1_Cost.call x w Q := by
  refine call_fn (ok 12) (fn := Go.Proofs.Try.f31) (args := [.int .u8 x]) (K := herdsmanref1_Cost.qv Q) Go.Proofs.Try.func31 (by kernel_rfl) (by kernel_rfl) (by kernel_rfl) ?_
  refine evT_sound (ok 12) (drawD_sound (ok 12) herdsmanref1_Cost.scr) 600 (L := []) (leaf_of (fn := Go.Proofs.Try.f31) [] (by kernel_rfl) trivial) (castK h (by kernel_rfl))
/-! ### 29 herdsman/herdsmanref1.Made -/
def herdsmanref1_Made.b9 (P3 : Option Addr → Nat → Nat → Addr → Addr → Int → World → Prop) (Q : Int → Int → Option Addr → Nat → Nat → World → Prop) (c_a : Option Addr) (c_n : Nat) (c_c : Nat) (t6 : Addr) (m : Addr) (i : Int) (x : Int) (w : World) : Prop :=
  LdS (m.add 2) w.drew fun x41_a x41_n x41_c =>
  herdsmanref1_Cost.call x w.drew fun r43 w0_1 =>
  w0_1.cell? (m.add 2) = some (.slice x41_a x41_n x41_c) ∧
  Bx [.int .u8 r43] 5 w0_1 fun p44_s w0_2 =>
  w0_2.cell? (m.add 2) = some (.slice x41_a x41_n x41_c) ∧
  App P #[22, 22] 22 (.slice x41_a x41_n x41_c) (.slice (some p44_s) 1 1) w0_2 fun r45_a r45_n r45_c w0_3 =>
  St (m.add 2) (.slice r45_a r45_n r45_c) w0_3 fun w0_4 =>
  P3 c_a c_n c_c t6 m (IntKind.wrap .i64 (i + 1)) w0_4
def herdsmanref1_Made.s3 (Q : Int → Int → Option Addr → Nat → Nat → World → Prop) (R3 : Option Addr → Nat → Nat → Addr → Addr → Int → World → Prop) (c_a : Option Addr) (c_n : Nat) (c_c : Nat) (t6 : Addr) (m : Addr) (i : Int) (w : World) : Prop :=
  LdI .i64 m w fun x18 =>
  LdI .i64 (m.add 1) w fun x20 =>
  cond (decide (i < (IntKind.wrap .i64 (x18 * x20))))
  (cond (decide ((c_n : Int) > 0))
  (NZ (c_n : Int) <|
  NZ (c_n : Int) <|
  InB (Int.tmod (IntKind.wrap .i64 (i + (IntKind.wrap .i64 ((IntKind.wrap .i64 (Int.tdiv i (c_n : Int))) * 5)))) (c_n : Int)) c_n <|
  wA c_a fun p =>
  LdI .u8 (p.add (((Int.tmod (IntKind.wrap .i64 (i + (IntKind.wrap .i64 ((IntKind.wrap .i64 (Int.tdiv i (c_n : Int))) * 5)))) (c_n : Int))).toNat * 1)) w fun x39 =>
  herdsmanref1_Made.b9 R3 Q c_a c_n c_c t6 m i x39 w)
  (herdsmanref1_Made.b9 R3 Q c_a c_n c_c t6 m i 1 w))
  (LdI .i64 (m.add 0) w fun x47_W =>
  LdI .i64 (m.add 1) w fun x47_H =>
  LdS (m.add 2) w fun x47_C_a x47_C_n x47_C_c =>
  St (t6.add 0) (.int .i64 x47_W) w fun w0_1 =>
  St (t6.add 1) (.int .i64 x47_H) w0_1 fun w0_2 =>
  St (t6.add 2) (.slice x47_C_a x47_C_n x47_C_c) w0_2 fun w0_3 =>
  LdI .i64 (t6.add 0) w0_3 fun r6_W =>
  LdI .i64 (t6.add 1) w0_3 fun r6_H =>
  LdS (t6.add 2) w0_3 fun r6_C_a r6_C_n r6_C_c =>
  Q r6_W r6_H r6_C_a r6_C_n r6_C_c w0_3)
def herdsmanref1_Made.b3 (Q : Int → Int → Option Addr → Nat → Nat → World → Prop) : Nat → Option Addr → Nat → Nat → Addr → Addr → Int → World → Prop
  | 0, _, _, _, _, _, _, _ => False
  | k + 1, c_a, c_n, c_c, t6, m, i, w => herdsmanref1_Made.s3 Q (herdsmanref1_Made.b3 Q k) c_a c_n c_c t6 m i w
def herdsmanref1_Made.sh (w0_1 : Int) (h0 : Int) (c_a : Option Addr) (c_n : Nat) (c_c : Nat) (w : World) (Q : Int → Int → Option Addr → Nat → Nat → World → Prop) : Prop :=
  Al T 55 w fun p6 w0_2 =>
  herdsmanref1_Within.call w0_1 1 40 w0_2 fun r12 w0_3 =>
  herdsmanref1_Within.call h0 1 40 w0_3 fun r14 w0_4 =>
  Al T 55 w0_4 fun m w0_5 =>
  St (m.add 0) (.int .i64 r12) w0_5 fun w0_6 =>
  St (m.add 1) (.int .i64 r14) w0_6 fun w0_7 =>
  St (m.add 2) (.slice none 0 0) w0_7 fun w0_8 =>
  ∃ k', herdsmanref1_Made.b3 Q k' c_a c_n c_c p6 m 0 w0_8
noncomputable def herdsmanref1_Made.scr : Scrs := [(9, .op 0 (.op 1 (.op 2 (.op 3 (.op 4 (.op 5 (.op 6 (.op 7 .done))))))))]
def herdsmanref1_Made.R (Q : Int → Int → Option Addr → Nat → Nat → World → Prop) (ρ : Env) (w : World) : Prop := evRes (cx 48) Go.Proofs.Try.f29.results.toList ρ w fun vs => herdsmanref1_Made.qv Q (resV vs) w
def herdsmanref1_Made.d3 (K : Option Addr → Nat → Nat → Addr → Addr → Int → Prop) (ρ : Env) : Prop :=
  dS (ρ 2) fun c_a c_n c_c => dP (ρ 6) fun t6_p => wA t6_p fun t6 => dP (ρ 7) fun m_p => wA m_p fun m => dI .i64 (ρ 8) fun i => K c_a c_n c_c t6 m i
theorem herdsmanref1_Made.d3_elim {K : Option Addr → Nat → Nat → Addr → Addr → Int → Prop} {ρ : Env} (h0 : herdsmanref1_Made.d3 K ρ) : ∃ (c_a : Option Addr) (c_n : Nat) (c_c : Nat) (t6 : Addr) (m : Addr) (i : Int), ρ 2 = .slice c_a c_n c_c ∧ ρ 6 = .pointer (some t6) ∧ ρ 7 = .pointer (some m) ∧ ρ 8 = .int .i64 i ∧ K c_a c_n c_c t6 m i := by
  obtain ⟨c_a, c_n, c_c, e2, h1⟩ := dS_elim h0
  obtain ⟨t6_p, e6, h2⟩ := dP_elim h1
  obtain ⟨t6, rfl, h3⟩ := wA_elim h2
  obtain ⟨m_p, e7, h4⟩ := dP_elim h3
  obtain ⟨m, rfl, h5⟩ := wA_elim h4
  obtain ⟨i, e8, h6⟩ := dI_elim h5
  exact ⟨c_a, c_n, c_c, t6, m, i, e2, e6, e7, e8, h6⟩
def herdsmanref1_Made.d9 (K : Option Addr → Nat → Nat → Addr → Addr → Int → Int → Prop) (ρ : Env) : Prop :=
  dS (ρ 2) fun c_a c_n c_c => dP (ρ 6) fun t6_p => wA t6_p fun t6 => dP (ρ 7) fun m_p => wA m_p fun m => dI .i64 (ρ 8) fun i => dI .u8 (ρ 9) fun x => K c_a c_n c_c t6 m i x
theorem herdsmanref1_Made.d9_elim {K : Option Addr → Nat → Nat → Addr → Addr → Int → Int → Prop} {ρ : Env} (h0 : herdsmanref1_Made.d9 K ρ) : ∃ (c_a : Option Addr) (c_n : Nat) (c_c : Nat) (t6 : Addr) (m : Addr) (i : Int) (x : Int), ρ 2 = .slice c_a c_n c_c ∧ ρ 6 = .pointer (some t6) ∧ ρ 7 = .pointer (some m) ∧ ρ 8 = .int .i64 i ∧ ρ 9 = .int .u8 x ∧ K c_a c_n c_c t6 m i x := by
  obtain ⟨c_a, c_n, c_c, e2, h1⟩ := dS_elim h0
  obtain ⟨t6_p, e6, h2⟩ := dP_elim h1
  obtain ⟨t6, rfl, h3⟩ := wA_elim h2
  obtain ⟨m_p, e7, h4⟩ := dP_elim h3
  obtain ⟨m, rfl, h5⟩ := wA_elim h4
  obtain ⟨i, e8, h6⟩ := dI_elim h5
  obtain ⟨x, e9, h7⟩ := dI_elim h6
  exact ⟨c_a, c_n, c_c, t6, m, i, x, e2, e6, e7, e8, e9, h7⟩
set_option maxRecDepth 100000 in
theorem herdsmanref1_Made.f9 (P3 : Option Addr → Nat → Nat → Addr → Addr → Int → World → Prop) (Q : Int → Int → Option Addr → Nat → Nat → World → Prop) (HP3 : ∀ c_a c_n c_c t6 m i w, P3 c_a c_n c_c t6 m i w → ∀ ρ : Env, ρ 2 = .slice c_a c_n c_c → ρ 6 = .pointer (some t6) → ρ 7 = .pointer (some m) → ρ 8 = .int .i64 i → Fin (cx 48) (todoOf Go.Proofs.Try.f29 3) ρ w (herdsmanref1_Made.R Q)) : ∀ c_a c_n c_c t6 m i x w, herdsmanref1_Made.b9 P3 Q c_a c_n c_c t6 m i x w → ∀ ρ : Env, ρ 2 = .slice c_a c_n c_c → ρ 6 = .pointer (some t6) → ρ 7 = .pointer (some m) → ρ 8 = .int .i64 i → ρ 9 = .int .u8 x → Fin (cx 48) (todoOf Go.Proofs.Try.f29 9) ρ w (herdsmanref1_Made.R Q) := by
  intro c_a c_n c_c t6 m i x w h ρ e2 e6 e7 e8 e9
  refine Fin.cut (ρ' := put (put (put (put (put (ρ) (some 2) (.slice c_a c_n c_c)) (some 6) (.pointer (some t6))) (some 7) (.pointer (some m))) (some 8) (.int .i64 i)) (some 9) (.int .u8 x)) ?_ (by rw [put_id e2, put_id e6, put_id e7, put_id e8, put_id e9])
  refine evT_sound (ok 48) (drawD_sound (ok 48) herdsmanref1_Made.scr) 600 (L := [(3, fun ρ w => herdsmanref1_Made.d3 (fun c_a c_n c_c t6 m i => P3 c_a c_n c_c t6 m i w) ρ)]) (leaf_of (fn := Go.Proofs.Try.f29) [3] (by kernel_rfl) ⟨fun ρ w h => by obtain ⟨c_a, c_n, c_c, t6, m, i, e2, e6, e7, e8, h⟩ := herdsmanref1_Made.d3_elim (ρ := ρ) h; exact HP3 c_a c_n c_c t6 m i w h ρ e2 e6 e7 e8, trivial⟩) (castK h (by kernel_rfl))
set_option maxRecDepth 100000 in
theorem herdsmanref1_Made.f3 (Q : Int → Int → Option Addr → Nat → Nat → World → Prop) : ∀ k c_a c_n c_c t6 m i w, herdsmanref1_Made.b3 Q k c_a c_n c_c t6 m i w → ∀ ρ : Env, ρ 2 = .slice c_a c_n c_c → ρ 6 = .pointer (some t6) → ρ 7 = .pointer (some m) → ρ 8 = .int .i64 i → Fin (cx 48) (todoOf Go.Proofs.Try.f29 3) ρ w (herdsmanref1_Made.R Q) := by
  intro k
  induction k with
  | zero => intro c_a c_n c_c t6 m i w h; exact h.elim
  | succ k ih =>
    intro c_a c_n c_c t6 m i w h ρ e2 e6 e7 e8
    have h : herdsmanref1_Made.s3 Q (herdsmanref1_Made.b3 Q k) c_a c_n c_c t6 m i w := h
    refine Fin.cut (ρ' := put (put (put (put (ρ) (some 2) (.slice c_a c_n c_c)) (some 6) (.pointer (some t6))) (some 7) (.pointer (some m))) (some 8) (.int .i64 i)) ?_ (by rw [put_id e2, put_id e6, put_id e7, put_id e8])
    refine evT_sound (ok 48) (drawD_sound (ok 48) herdsmanref1_Made.scr) 600 (L := [(9, fun ρ w => herdsmanref1_Made.d9 (fun c_a c_n c_c t6 m i x => herdsmanref1_Made.b9 (herdsmanref1_Made.b3 Q k) Q c_a c_n c_c t6 m i x w) ρ)]) (leaf_of (fn := Go.Proofs.Try.f29) [9, 9] (by kernel_rfl) ⟨fun ρ w h => by obtain ⟨c_a, c_n, c_c, t6, m, i, x, e2, e6, e7, e8, e9, h⟩ := herdsmanref1_Made.d9_elim (ρ := ρ) h; exact herdsmanref1_Made.f9 (herdsmanref1_Made.b3 Q k) Q ih c_a c_n c_c t6 m i x w h ρ e2 e6 e7 e8 e9, trivial⟩) (castK h (by kernel_rfl))
set_option maxRecDepth 100000 in
theorem herdsmanref1_Made.body (w0_1 : Int) (h0 : Int) (c_a : Option Addr) (c_n : Nat) (c_c : Nat) (w : World) (Q : Int → Int → Option Addr → Nat → Nat → World → Prop) (h : herdsmanref1_Made.sh w0_1 h0 c_a c_n c_c w Q) : herdsmanref1_Made.call w0_1 h0 c_a c_n c_c w Q := by
  refine call_fn (ok 48) (fn := Go.Proofs.Try.f29) (args := [.int .i64 w0_1, .int .i64 h0, .slice c_a c_n c_c]) (K := herdsmanref1_Made.qv Q) Go.Proofs.Try.func29 (by kernel_rfl) (by kernel_rfl) (by kernel_rfl) ?_
  refine evT_sound (ok 48) (drawD_sound (ok 48) herdsmanref1_Made.scr) 600 (L := [(3, fun ρ w => herdsmanref1_Made.d3 (fun c_a c_n c_c t6 m i => ∃ k', herdsmanref1_Made.b3 Q k' c_a c_n c_c t6 m i w) ρ)]) (leaf_of (fn := Go.Proofs.Try.f29) [3] (by kernel_rfl) ⟨fun ρ w h => by obtain ⟨c_a, c_n, c_c, t6, m, i, e2, e6, e7, e8, h⟩ := herdsmanref1_Made.d3_elim (ρ := ρ) h; obtain ⟨k', h⟩ := h; exact herdsmanref1_Made.f3 Q k' c_a c_n c_c t6 m i w h ρ e2 e6 e7 e8, trivial⟩) (castK h (by kernel_rfl))
/-! ### 44 herdsman/herdsmanref1.May -/
def herdsmanref1_May.sh (w0_1 : Int) (h0 : Int) (w : World) (Q : Bool → World → Prop) : Prop :=
  herdsmanref1_In.call w0_1 1 1024 w fun r6 w0_2 =>
  cond r6
  (herdsmanref1_In.call h0 1 1024 w0_2 fun r9 w0_3 =>
  Q r9 w0_3)
  (Q false w0_2)
noncomputable def herdsmanref1_May.scr : Scrs := []
def herdsmanref1_May.R (Q : Bool → World → Prop) (ρ : Env) (w : World) : Prop := evRes (cx 11) Go.Proofs.Try.f44.results.toList ρ w fun vs => herdsmanref1_May.qv Q (resV vs) w
set_option maxRecDepth 100000 in
theorem herdsmanref1_May.body (w0_1 : Int) (h0 : Int) (w : World) (Q : Bool → World → Prop) (h : herdsmanref1_May.sh w0_1 h0 w Q) : herdsmanref1_May.call w0_1 h0 w Q := by
  refine call_fn (ok 11) (fn := Go.Proofs.Try.f44) (args := [.int .i64 w0_1, .int .i64 h0]) (K := herdsmanref1_May.qv Q) Go.Proofs.Try.func44 (by kernel_rfl) (by kernel_rfl) (by kernel_rfl) ?_
  refine evT_sound (ok 11) (drawD_sound (ok 11) herdsmanref1_May.scr) 600 (L := []) (leaf_of (fn := Go.Proofs.Try.f44) [] (by kernel_rfl) trivial) (castK h (by kernel_rfl))
/-! ### 40 herdsman/herdsmanref1.Sectors -/
def herdsmanref1_Sectors.sh (w0_1 : Int) (h0 : Int) (w : World) (Q : Int → Int → World → Prop) : Prop :=
  herdsmanref1_May.call w0_1 h0 w fun r8 w0_2 =>
  cond (!r8)
  (Q 0 0 w0_2)
  (NZ 16 <|
  NZ 16 <|
  Q (IntKind.wrap .i64 (Int.tdiv (IntKind.wrap .i64 ((IntKind.wrap .i64 (w0_1 + 16)) - 1)) 16)) (IntKind.wrap .i64 (Int.tdiv (IntKind.wrap .i64 ((IntKind.wrap .i64 (h0 + 16)) - 1)) 16)) w0_2)
noncomputable def herdsmanref1_Sectors.scr : Scrs := []
def herdsmanref1_Sectors.R (Q : Int → Int → World → Prop) (ρ : Env) (w : World) : Prop := evRes (cx 18) Go.Proofs.Try.f40.results.toList ρ w fun vs => herdsmanref1_Sectors.qv Q (resV vs) w
set_option maxRecDepth 100000 in
theorem herdsmanref1_Sectors.body (w0_1 : Int) (h0 : Int) (w : World) (Q : Int → Int → World → Prop) (h : herdsmanref1_Sectors.sh w0_1 h0 w Q) : herdsmanref1_Sectors.call w0_1 h0 w Q := by
  refine call_fn (ok 18) (fn := Go.Proofs.Try.f40) (args := [.int .i64 w0_1, .int .i64 h0]) (K := herdsmanref1_Sectors.qv Q) Go.Proofs.Try.func40 (by kernel_rfl) (by kernel_rfl) (by kernel_rfl) ?_
  refine evT_sound (ok 18) (drawD_sound (ok 18) herdsmanref1_Sectors.scr) 600 (L := []) (leaf_of (fn := Go.Proofs.Try.f40) [] (by kernel_rfl) trivial) (castK h (by kernel_rfl))
/-! ### 37 herdsman/herdsmanref1.Count -/
def herdsmanref1_Count.sh (w0_1 : Int) (h0 : Int) (w : World) (Q : Int → World → Prop) : Prop :=
  herdsmanref1_Sectors.call w0_1 h0 w fun r10_0 r10_1 w0_2 =>
  Q (IntKind.wrap .i64 (r10_0 * r10_1)) w0_2
noncomputable def herdsmanref1_Count.scr : Scrs := []
def herdsmanref1_Count.R (Q : Int → World → Prop) (ρ : Env) (w : World) : Prop := evRes (cx 16) Go.Proofs.Try.f37.results.toList ρ w fun vs => herdsmanref1_Count.qv Q (resV vs) w
set_option maxRecDepth 100000 in
theorem herdsmanref1_Count.body (w0_1 : Int) (h0 : Int) (w : World) (Q : Int → World → Prop) (h : herdsmanref1_Count.sh w0_1 h0 w Q) : herdsmanref1_Count.call w0_1 h0 w Q := by
  refine call_fn (ok 16) (fn := Go.Proofs.Try.f37) (args := [.int .i64 w0_1, .int .i64 h0]) (K := herdsmanref1_Count.qv Q) Go.Proofs.Try.func37 (by kernel_rfl) (by kernel_rfl) (by kernel_rfl) ?_
  refine evT_sound (ok 16) (drawD_sound (ok 16) herdsmanref1_Count.scr) 600 (L := []) (leaf_of (fn := Go.Proofs.Try.f37) [] (by kernel_rfl) trivial) (castK h (by kernel_rfl))
/-! ### 41 herdsman/herdsmanref1.runs -/
def herdsmanref1_runs.b7 (P3 : Option Addr → Nat → Nat → Option Addr → Nat → Nat → Int → World → Prop) (Q : Option Addr → Nat → Nat → World → Prop) (c_a : Option Addr) (c_n : Nat) (c_c : Nat) (out_a : Option Addr) (out_n : Nat) (out_c : Nat) (i : Int) (n : Int) (w : World) : Prop :=
  InB i c_n <|
  wA c_a fun p =>
  LdI .u8 (p.add (i.toNat * 1)) w fun x39 =>
  Bx [.int .u8 (IntKind.wrap .u8 (IntKind.wrap .i64 (n - 1))), .int .u8 x39] 5 w fun p40_s w0_1 =>
  App P #[22, 22] 22 (.slice out_a out_n out_c) (.slice (some p40_s) 2 2) w0_1 fun r41_a r41_n r41_c w0_2 =>
  P3 c_a c_n c_c r41_a r41_n r41_c (IntKind.wrap .i64 (i + n)) w0_2
def herdsmanref1_runs.s5 (P3 : Option Addr → Nat → Nat → Option Addr → Nat → Nat → Int → World → Prop) (Q : Option Addr → Nat → Nat → World → Prop) (R5 : Option Addr → Nat → Nat → Option Addr → Nat → Nat → Int → Int → World → Prop) (c_a : Option Addr) (c_n : Nat) (c_c : Nat) (out_a : Option Addr) (out_n : Nat) (out_c : Nat) (i : Int) (n : Int) (w : World) : Prop :=
  cond (decide ((IntKind.wrap .i64 (i + n)) < (c_n : Int)))
  (InB (IntKind.wrap .i64 (i + n)) c_n <|
  wA c_a fun p =>
  LdI .u8 (p.add (((IntKind.wrap .i64 (i + n))).toNat * 1)) w.drew fun x23 =>
  InB i c_n <|
  wA c_a fun p_1 =>
  LdI .u8 (p_1.add (i.toNat * 1)) w.drew fun x27 =>
  cond (x23 == x27)
  (R5 c_a c_n c_c out_a out_n out_c i (IntKind.wrap .i64 (n + 1)) w.drew)
  (herdsmanref1_runs.b7 P3 Q c_a c_n c_c out_a out_n out_c i n w.drew))
  (herdsmanref1_runs.b7 P3 Q c_a c_n c_c out_a out_n out_c i n w.drew)
def herdsmanref1_runs.b5 (P3 : Option Addr → Nat → Nat → Option Addr → Nat → Nat → Int → World → Prop) (Q : Option Addr → Nat → Nat → World → Prop) : Nat → Option Addr → Nat → Nat → Option Addr → Nat → Nat → Int → Int → World → Prop
  | 0, _, _, _, _, _, _, _, _, _ => False
  | k + 1, c_a, c_n, c_c, out_a, out_n, out_c, i, n, w => herdsmanref1_runs.s5 P3 Q (herdsmanref1_runs.b5 P3 Q k) c_a c_n c_c out_a out_n out_c i n w
def herdsmanref1_runs.s3 (Q : Option Addr → Nat → Nat → World → Prop) (R3 : Option Addr → Nat → Nat → Option Addr → Nat → Nat → Int → World → Prop) (c_a : Option Addr) (c_n : Nat) (c_c : Nat) (out_a : Option Addr) (out_n : Nat) (out_c : Nat) (i : Int) (w : World) : Prop :=
  cond (decide (i < (c_n : Int)))
  (∃ k', herdsmanref1_runs.b5 R3 Q k' c_a c_n c_c out_a out_n out_c i 1 w)
  (Q out_a out_n out_c w)
def herdsmanref1_runs.b3 (Q : Option Addr → Nat → Nat → World → Prop) : Nat → Option Addr → Nat → Nat → Option Addr → Nat → Nat → Int → World → Prop
  | 0, _, _, _, _, _, _, _, _ => False
  | k + 1, c_a, c_n, c_c, out_a, out_n, out_c, i, w => herdsmanref1_runs.s3 Q (herdsmanref1_runs.b3 Q k) c_a c_n c_c out_a out_n out_c i w
def herdsmanref1_runs.sh (c_a : Option Addr) (c_n : Nat) (c_c : Nat) (w : World) (Q : Option Addr → Nat → Nat → World → Prop) : Prop :=
  Bx [.int .u8 2] 5 w fun p6_s w0_1 =>
  ∃ k', herdsmanref1_runs.b3 Q k' c_a c_n c_c (some p6_s) 1 1 0 w0_1
noncomputable def herdsmanref1_runs.scr : Scrs := [(5, .op 0 (.op 1 (.op 2 (.op 3 (.op 4 (.op 5 (.op 6 (.op 7 (.op 8 (.op 9 (.op 10 (.op 11 (.op 12 (.op 13 (.op 14 (.op 15 (.op 16 (.op 17 (.op 18 .done)))))))))))))))))))]
def herdsmanref1_runs.R (Q : Option Addr → Nat → Nat → World → Prop) (ρ : Env) (w : World) : Prop := evRes (cx 46) Go.Proofs.Try.f41.results.toList ρ w fun vs => herdsmanref1_runs.qv Q (resV vs) w
def herdsmanref1_runs.d3 (K : Option Addr → Nat → Nat → Option Addr → Nat → Nat → Int → Prop) (ρ : Env) : Prop :=
  dS (ρ 0) fun c_a c_n c_c => dS (ρ 3) fun out_a out_n out_c => dI .i64 (ρ 4) fun i => K c_a c_n c_c out_a out_n out_c i
theorem herdsmanref1_runs.d3_elim {K : Option Addr → Nat → Nat → Option Addr → Nat → Nat → Int → Prop} {ρ : Env} (h0 : herdsmanref1_runs.d3 K ρ) : ∃ (c_a : Option Addr) (c_n : Nat) (c_c : Nat) (out_a : Option Addr) (out_n : Nat) (out_c : Nat) (i : Int), ρ 0 = .slice c_a c_n c_c ∧ ρ 3 = .slice out_a out_n out_c ∧ ρ 4 = .int .i64 i ∧ K c_a c_n c_c out_a out_n out_c i := by
  obtain ⟨c_a, c_n, c_c, e0, h1⟩ := dS_elim h0
  obtain ⟨out_a, out_n, out_c, e3, h2⟩ := dS_elim h1
  obtain ⟨i, e4, h3⟩ := dI_elim h2
  exact ⟨c_a, c_n, c_c, out_a, out_n, out_c, i, e0, e3, e4, h3⟩
def herdsmanref1_runs.d5 (K : Option Addr → Nat → Nat → Option Addr → Nat → Nat → Int → Int → Prop) (ρ : Env) : Prop :=
  dS (ρ 0) fun c_a c_n c_c => dS (ρ 3) fun out_a out_n out_c => dI .i64 (ρ 4) fun i => dI .i64 (ρ 5) fun n => K c_a c_n c_c out_a out_n out_c i n
theorem herdsmanref1_runs.d5_elim {K : Option Addr → Nat → Nat → Option Addr → Nat → Nat → Int → Int → Prop} {ρ : Env} (h0 : herdsmanref1_runs.d5 K ρ) : ∃ (c_a : Option Addr) (c_n : Nat) (c_c : Nat) (out_a : Option Addr) (out_n : Nat) (out_c : Nat) (i : Int) (n : Int), ρ 0 = .slice c_a c_n c_c ∧ ρ 3 = .slice out_a out_n out_c ∧ ρ 4 = .int .i64 i ∧ ρ 5 = .int .i64 n ∧ K c_a c_n c_c out_a out_n out_c i n := by
  obtain ⟨c_a, c_n, c_c, e0, h1⟩ := dS_elim h0
  obtain ⟨out_a, out_n, out_c, e3, h2⟩ := dS_elim h1
  obtain ⟨i, e4, h3⟩ := dI_elim h2
  obtain ⟨n, e5, h4⟩ := dI_elim h3
  exact ⟨c_a, c_n, c_c, out_a, out_n, out_c, i, n, e0, e3, e4, e5, h4⟩
def herdsmanref1_runs.d7 (K : Option Addr → Nat → Nat → Option Addr → Nat → Nat → Int → Int → Prop) (ρ : Env) : Prop :=
  dS (ρ 0) fun c_a c_n c_c => dS (ρ 3) fun out_a out_n out_c => dI .i64 (ρ 4) fun i => dI .i64 (ρ 5) fun n => K c_a c_n c_c out_a out_n out_c i n
theorem herdsmanref1_runs.d7_elim {K : Option Addr → Nat → Nat → Option Addr → Nat → Nat → Int → Int → Prop} {ρ : Env} (h0 : herdsmanref1_runs.d7 K ρ) : ∃ (c_a : Option Addr) (c_n : Nat) (c_c : Nat) (out_a : Option Addr) (out_n : Nat) (out_c : Nat) (i : Int) (n : Int), ρ 0 = .slice c_a c_n c_c ∧ ρ 3 = .slice out_a out_n out_c ∧ ρ 4 = .int .i64 i ∧ ρ 5 = .int .i64 n ∧ K c_a c_n c_c out_a out_n out_c i n := by
  obtain ⟨c_a, c_n, c_c, e0, h1⟩ := dS_elim h0
  obtain ⟨out_a, out_n, out_c, e3, h2⟩ := dS_elim h1
  obtain ⟨i, e4, h3⟩ := dI_elim h2
  obtain ⟨n, e5, h4⟩ := dI_elim h3
  exact ⟨c_a, c_n, c_c, out_a, out_n, out_c, i, n, e0, e3, e4, e5, h4⟩
set_option maxRecDepth 100000 in
theorem herdsmanref1_runs.f7 (P3 : Option Addr → Nat → Nat → Option Addr → Nat → Nat → Int → World → Prop) (Q : Option Addr → Nat → Nat → World → Prop) (HP3 : ∀ c_a c_n c_c out_a out_n out_c i w, P3 c_a c_n c_c out_a out_n out_c i w → ∀ ρ : Env, ρ 0 = .slice c_a c_n c_c → ρ 3 = .slice out_a out_n out_c → ρ 4 = .int .i64 i → Fin (cx 46) (todoOf Go.Proofs.Try.f41 3) ρ w (herdsmanref1_runs.R Q)) : ∀ c_a c_n c_c out_a out_n out_c i n w, herdsmanref1_runs.b7 P3 Q c_a c_n c_c out_a out_n out_c i n w → ∀ ρ : Env, ρ 0 = .slice c_a c_n c_c → ρ 3 = .slice out_a out_n out_c → ρ 4 = .int .i64 i → ρ 5 = .int .i64 n → Fin (cx 46) (todoOf Go.Proofs.Try.f41 7) ρ w (herdsmanref1_runs.R Q) := by
  intro c_a c_n c_c out_a out_n out_c i n w h ρ e0 e3 e4 e5
  refine Fin.cut (ρ' := put (put (put (put (ρ) (some 0) (.slice c_a c_n c_c)) (some 3) (.slice out_a out_n out_c)) (some 4) (.int .i64 i)) (some 5) (.int .i64 n)) ?_ (by rw [put_id e0, put_id e3, put_id e4, put_id e5])
  refine evT_sound (ok 46) (drawD_sound (ok 46) herdsmanref1_runs.scr) 600 (L := [(3, fun ρ w => herdsmanref1_runs.d3 (fun c_a c_n c_c out_a out_n out_c i => P3 c_a c_n c_c out_a out_n out_c i w) ρ)]) (leaf_of (fn := Go.Proofs.Try.f41) [3] (by kernel_rfl) ⟨fun ρ w h => by obtain ⟨c_a, c_n, c_c, out_a, out_n, out_c, i, e0, e3, e4, h⟩ := herdsmanref1_runs.d3_elim (ρ := ρ) h; exact HP3 c_a c_n c_c out_a out_n out_c i w h ρ e0 e3 e4, trivial⟩) (castK h (by kernel_rfl))
set_option maxRecDepth 100000 in
theorem herdsmanref1_runs.f5 (P3 : Option Addr → Nat → Nat → Option Addr → Nat → Nat → Int → World → Prop) (Q : Option Addr → Nat → Nat → World → Prop) (HP3 : ∀ c_a c_n c_c out_a out_n out_c i w, P3 c_a c_n c_c out_a out_n out_c i w → ∀ ρ : Env, ρ 0 = .slice c_a c_n c_c → ρ 3 = .slice out_a out_n out_c → ρ 4 = .int .i64 i → Fin (cx 46) (todoOf Go.Proofs.Try.f41 3) ρ w (herdsmanref1_runs.R Q)) : ∀ k c_a c_n c_c out_a out_n out_c i n w, herdsmanref1_runs.b5 P3 Q k c_a c_n c_c out_a out_n out_c i n w → ∀ ρ : Env, ρ 0 = .slice c_a c_n c_c → ρ 3 = .slice out_a out_n out_c → ρ 4 = .int .i64 i → ρ 5 = .int .i64 n → Fin (cx 46) (todoOf Go.Proofs.Try.f41 5) ρ w (herdsmanref1_runs.R Q) := by
  intro k
  induction k with
  | zero => intro c_a c_n c_c out_a out_n out_c i n w h; exact h.elim
  | succ k ih =>
    intro c_a c_n c_c out_a out_n out_c i n w h ρ e0 e3 e4 e5
    have h : herdsmanref1_runs.s5 P3 Q (herdsmanref1_runs.b5 P3 Q k) c_a c_n c_c out_a out_n out_c i n w := h
    refine Fin.cut (ρ' := put (put (put (put (ρ) (some 0) (.slice c_a c_n c_c)) (some 3) (.slice out_a out_n out_c)) (some 4) (.int .i64 i)) (some 5) (.int .i64 n)) ?_ (by rw [put_id e0, put_id e3, put_id e4, put_id e5])
    refine evT_sound (ok 46) (drawD_sound (ok 46) herdsmanref1_runs.scr) 600 (L := [(5, fun ρ w => herdsmanref1_runs.d5 (fun c_a c_n c_c out_a out_n out_c i n => herdsmanref1_runs.b5 P3 Q k c_a c_n c_c out_a out_n out_c i n w) ρ), (7, fun ρ w => herdsmanref1_runs.d7 (fun c_a c_n c_c out_a out_n out_c i n => herdsmanref1_runs.b7 P3 Q c_a c_n c_c out_a out_n out_c i n w) ρ)]) (leaf_of (fn := Go.Proofs.Try.f41) [5, 7] (by kernel_rfl) ⟨fun ρ w h => by obtain ⟨c_a, c_n, c_c, out_a, out_n, out_c, i, n, e0, e3, e4, e5, h⟩ := herdsmanref1_runs.d5_elim (ρ := ρ) h; exact ih c_a c_n c_c out_a out_n out_c i n w h ρ e0 e3 e4 e5, fun ρ w h => by obtain ⟨c_a, c_n, c_c, out_a, out_n, out_c, i, n, e0, e3, e4, e5, h⟩ := herdsmanref1_runs.d7_elim (ρ := ρ) h; exact herdsmanref1_runs.f7 P3 Q HP3 c_a c_n c_c out_a out_n out_c i n w h ρ e0 e3 e4 e5, trivial⟩) (castK h (by kernel_rfl))
set_option maxRecDepth 100000 in
theorem herdsmanref1_runs.f3 (Q : Option Addr → Nat → Nat → World → Prop) : ∀ k c_a c_n c_c out_a out_n out_c i w, herdsmanref1_runs.b3 Q k c_a c_n c_c out_a out_n out_c i w → ∀ ρ : Env, ρ 0 = .slice c_a c_n c_c → ρ 3 = .slice out_a out_n out_c → ρ 4 = .int .i64 i → Fin (cx 46) (todoOf Go.Proofs.Try.f41 3) ρ w (herdsmanref1_runs.R Q) := by
  intro k
  induction k with
  | zero => intro c_a c_n c_c out_a out_n out_c i w h; exact h.elim
  | succ k ih =>
    intro c_a c_n c_c out_a out_n out_c i w h ρ e0 e3 e4
    have h : herdsmanref1_runs.s3 Q (herdsmanref1_runs.b3 Q k) c_a c_n c_c out_a out_n out_c i w := h
    refine Fin.cut (ρ' := put (put (put (ρ) (some 0) (.slice c_a c_n c_c)) (some 3) (.slice out_a out_n out_c)) (some 4) (.int .i64 i)) ?_ (by rw [put_id e0, put_id e3, put_id e4])
    refine evT_sound (ok 46) (drawD_sound (ok 46) herdsmanref1_runs.scr) 600 (L := [(5, fun ρ w => herdsmanref1_runs.d5 (fun c_a c_n c_c out_a out_n out_c i n => ∃ k', herdsmanref1_runs.b5 (herdsmanref1_runs.b3 Q k) Q k' c_a c_n c_c out_a out_n out_c i n w) ρ)]) (leaf_of (fn := Go.Proofs.Try.f41) [5] (by kernel_rfl) ⟨fun ρ w h => by obtain ⟨c_a, c_n, c_c, out_a, out_n, out_c, i, n, e0, e3, e4, e5, h⟩ := herdsmanref1_runs.d5_elim (ρ := ρ) h; obtain ⟨k', h⟩ := h; exact herdsmanref1_runs.f5 (herdsmanref1_runs.b3 Q k) Q ih k' c_a c_n c_c out_a out_n out_c i n w h ρ e0 e3 e4 e5, trivial⟩) (castK h (by kernel_rfl))
set_option maxRecDepth 100000 in
theorem herdsmanref1_runs.body (c_a : Option Addr) (c_n : Nat) (c_c : Nat) (w : World) (Q : Option Addr → Nat → Nat → World → Prop) (h : herdsmanref1_runs.sh c_a c_n c_c w Q) : herdsmanref1_runs.call c_a c_n c_c w Q := by
  refine call_fn (ok 46) (fn := Go.Proofs.Try.f41) (args := [.slice c_a c_n c_c]) (K := herdsmanref1_runs.qv Q) Go.Proofs.Try.func41 (by kernel_rfl) (by kernel_rfl) (by kernel_rfl) ?_
  refine evT_sound (ok 46) (drawD_sound (ok 46) herdsmanref1_runs.scr) 600 (L := [(3, fun ρ w => herdsmanref1_runs.d3 (fun c_a c_n c_c out_a out_n out_c i => ∃ k', herdsmanref1_runs.b3 Q k' c_a c_n c_c out_a out_n out_c i w) ρ)]) (leaf_of (fn := Go.Proofs.Try.f41) [3] (by kernel_rfl) ⟨fun ρ w h => by obtain ⟨c_a, c_n, c_c, out_a, out_n, out_c, i, e0, e3, e4, h⟩ := herdsmanref1_runs.d3_elim (ρ := ρ) h; obtain ⟨k', h⟩ := h; exact herdsmanref1_runs.f3 Q k' c_a c_n c_c out_a out_n out_c i w h ρ e0 e3 e4, trivial⟩) (castK h (by kernel_rfl))
/-! ### 38 herdsman/herdsmanref1.PutTile -/
def herdsmanref1_PutTile.sh (t_W : Int) (t_H : Int) (t_C_a : Option Addr) (t_C_n : Nat) (t_C_c : Nat) (w : World) (Q : Int → Option Addr → Nat → Nat → World → Prop) : Prop :=
  Bx [.int .i64 t_W, .int .i64 t_H, .slice t_C_a t_C_n t_C_c] 69 w fun t_b w0_1 =>
  LdS (t_b.add 2) w0_1 fun x6_a x6_n x6_c =>
  herdsmanref1_runs.call x6_a x6_n x6_c w0_1 fun r7_a r7_n r7_c w0_2 =>
  cond ((r7_n : Int) == 3)
  (LdS (t_b.add 2) w0_2.drew fun x12_a x12_n x12_c =>
  InB 0 x12_n <|
  wA x12_a fun p =>
  LdI .u8 (p.add (((0 : Int).toNat) * 1)) w0_2.drew fun x14 =>
  (Bx [.int .u8 0, .int .u8 x14] 5 w0_2.drew fun p15_s w0_3 =>
  w0_3.cell? (p.add (((0 : Int).toNat) * 1)) = some (.int .u8 x14) ∧
  w0_3.cell? (t_b.add 2) = some (.slice x12_a x12_n x12_c) ∧
  Q 0 (some p15_s) 2 2 w0_3) ∧
  (w0_2.drew.cell? (p.add (((0 : Int).toNat) * 1)) = some (.int .u8 x14) ∧
  w0_2.drew.cell? (t_b.add 2) = some (.slice x12_a x12_n x12_c) ∧
  Bx [.int .u8 0, .int .u8 x14] 5 w0_2.drew fun p15_s_1 w0_4 =>
  Q 0 (some p15_s_1) 2 2 w0_4))
  (LdS (t_b.add 2) w0_2 fun x19_a x19_n x19_c =>
  cond (decide ((r7_n : Int) < (IntKind.wrap .i64 (1 + (x19_n : Int)))))
  (Q 2 r7_a r7_n r7_c w0_2)
  (Bx [.int .u8 1] 5 w0_2 fun p24_s w0_5 =>
  LdS (t_b.add 2) w0_5 fun x26_a x26_n x26_c =>
  App P #[22, 22] 22 (.slice (some p24_s) 1 1) (.slice x26_a x26_n x26_c) w0_5 fun r27_a r27_n r27_c w0_6 =>
  Q 1 r27_a r27_n r27_c w0_6))
noncomputable def herdsmanref1_PutTile.scr : Scrs := [(3, .op 0 (.op 1 (.op 2 (.op 3 (.br (.op 4 (.op 5 (.op 6 .done))) (.op 5 (.op 4 (.op 6 .done))))))))]
def herdsmanref1_PutTile.R (Q : Int → Option Addr → Nat → Nat → World → Prop) (ρ : Env) (w : World) : Prop := evRes (cx 28) Go.Proofs.Try.f38.results.toList ρ w fun vs => herdsmanref1_PutTile.qv Q (resV vs) w
set_option maxRecDepth 100000 in
theorem herdsmanref1_PutTile.body (t_W : Int) (t_H : Int) (t_C_a : Option Addr) (t_C_n : Nat) (t_C_c : Nat) (w : World) (Q : Int → Option Addr → Nat → Nat → World → Prop) (h : herdsmanref1_PutTile.sh t_W t_H t_C_a t_C_n t_C_c w Q) : herdsmanref1_PutTile.call t_W t_H t_C_a t_C_n t_C_c w Q := by
  refine call_fn (ok 28) (fn := Go.Proofs.Try.f38) (args := [.agg #[.int .i64 t_W, .int .i64 t_H, .slice t_C_a t_C_n t_C_c]]) (K := herdsmanref1_PutTile.qv Q) Go.Proofs.Try.func38 (by kernel_rfl) (by kernel_rfl) (by kernel_rfl) ?_
  refine evT_sound (ok 28) (drawD_sound (ok 28) herdsmanref1_PutTile.scr) 600 (L := []) (leaf_of (fn := Go.Proofs.Try.f38) [] (by kernel_rfl) trivial) (castK h (by kernel_rfl))
/-! ### 42 herdsman/herdsmanref1.Size -/
def herdsmanref1_Size.sh (w0_1 : Int) (h0 : Int) (s0 : Int) (w : World) (Q : Int → Int → World → Prop) : Prop :=
  herdsmanref1_Count.call w0_1 h0 w fun r13 w0_2 =>
  herdsmanref1_In.call s0 0 (IntKind.wrap .i64 (r13 - 1)) w0_2 fun r15 w0_3 =>
  cond (!r15)
  (Q 0 0 w0_3)
  (herdsmanref1_Sectors.call w0_1 h0 w0_3 fun r20_0 r20_1 w0_4 =>
  NZ r20_0 <|
  NZ r20_0 <|
  Q (imin 16 (IntKind.wrap .i64 (w0_1 - (IntKind.wrap .i64 (16 * (Int.tmod s0 r20_0)))))) (imin 16 (IntKind.wrap .i64 (h0 - (IntKind.wrap .i64 (16 * (IntKind.wrap .i64 (Int.tdiv s0 r20_0))))))) w0_4.drew)
noncomputable def herdsmanref1_Size.scr : Scrs := [(4, .op 0 (.op 1 (.op 2 (.op 3 (.op 4 (.op 5 (.op 6 (.op 7 (.op 8 (.op 9 (.op 10 (.op 11 (.op 12 (.op 13 (.op 14 (.op 15 .done))))))))))))))))]
def herdsmanref1_Size.R (Q : Int → Int → World → Prop) (ρ : Env) (w : World) : Prop := evRes (cx 37) Go.Proofs.Try.f42.results.toList ρ w fun vs => herdsmanref1_Size.qv Q (resV vs) w
set_option maxRecDepth 100000 in
theorem herdsmanref1_Size.body (w0_1 : Int) (h0 : Int) (s0 : Int) (w : World) (Q : Int → Int → World → Prop) (h : herdsmanref1_Size.sh w0_1 h0 s0 w Q) : herdsmanref1_Size.call w0_1 h0 s0 w Q := by
  refine call_fn (ok 37) (fn := Go.Proofs.Try.f42) (args := [.int .i64 w0_1, .int .i64 h0, .int .i64 s0]) (K := herdsmanref1_Size.qv Q) Go.Proofs.Try.func42 (by kernel_rfl) (by kernel_rfl) (by kernel_rfl) ?_
  refine evT_sound (ok 37) (drawD_sound (ok 37) herdsmanref1_Size.scr) 600 (L := []) (leaf_of (fn := Go.Proofs.Try.f42) [] (by kernel_rfl) trivial) (castK h (by kernel_rfl))
/-! ### 43 herdsman/herdsmanref1.Global -/
def herdsmanref1_Global.sh (w0_1 : Int) (h0 : Int) (s0 : Int) (l : Int) (w : World) (Q : Int → World → Prop) : Prop :=
  herdsmanref1_Size.call w0_1 h0 s0 w fun r17_0 r17_1 w0_2 =>
  herdsmanref1_In.call l 0 (IntKind.wrap .i64 ((IntKind.wrap .i64 (r17_0 * r17_1)) - 1)) w0_2 fun r25 w0_3 =>
  cond (!r25)
  (Q (-1) w0_3)
  (herdsmanref1_Sectors.call w0_1 h0 w0_3 fun r30_0 r30_1 w0_4 =>
  NZ r30_0 <|
  NZ r17_0 <|
  NZ r30_0 <|
  NZ r17_0 <|
  Q (IntKind.wrap .i64 ((IntKind.wrap .i64 ((IntKind.wrap .i64 ((IntKind.wrap .i64 ((IntKind.wrap .i64 (16 * (IntKind.wrap .i64 (Int.tdiv s0 r30_0)))) + (IntKind.wrap .i64 (Int.tdiv l r17_0)))) * w0_1)) + (IntKind.wrap .i64 (16 * (Int.tmod s0 r30_0))))) + (Int.tmod l r17_0))) w0_4.drew)
noncomputable def herdsmanref1_Global.scr : Scrs := [(5, .op 0 (.op 1 (.op 2 (.op 3 (.op 4 (.op 5 (.op 6 (.op 7 (.op 8 (.op 9 (.op 10 (.op 11 (.op 12 (.op 13 (.op 14 (.op 15 (.op 16 (.op 17 (.op 18 (.op 19 .done))))))))))))))))))))]
def herdsmanref1_Global.R (Q : Int → World → Prop) (ρ : Env) (w : World) : Prop := evRes (cx 52) Go.Proofs.Try.f43.results.toList ρ w fun vs => herdsmanref1_Global.qv Q (resV vs) w
set_option maxRecDepth 100000 in
theorem herdsmanref1_Global.body (w0_1 : Int) (h0 : Int) (s0 : Int) (l : Int) (w : World) (Q : Int → World → Prop) (h : herdsmanref1_Global.sh w0_1 h0 s0 l w Q) : herdsmanref1_Global.call w0_1 h0 s0 l w Q := by
  refine call_fn (ok 52) (fn := Go.Proofs.Try.f43) (args := [.int .i64 w0_1, .int .i64 h0, .int .i64 s0, .int .i64 l]) (K := herdsmanref1_Global.qv Q) Go.Proofs.Try.func43 (by kernel_rfl) (by kernel_rfl) (by kernel_rfl) ?_
  refine evT_sound (ok 52) (drawD_sound (ok 52) herdsmanref1_Global.scr) 600 (L := []) (leaf_of (fn := Go.Proofs.Try.f43) [] (by kernel_rfl) trivial) (castK h (by kernel_rfl))
/-! ### 39 herdsman/herdsmanref1.TileOf -/
def herdsmanref1_TileOf.s4 (Q : Int → Int → Option Addr → Nat → Nat → World → Prop) (R4 : Int → Addr → Addr → Int → Int → Addr → Int → World → Prop) (s0 : Int) (m : Addr) (t4 : Addr) (tw : Int) (th : Int) (t : Addr) (l : Int) (w : World) : Prop :=
  cond (decide (l < (IntKind.wrap .i64 (tw * th))))
  (LdS (t.add 2) w.drew fun x29_a x29_n x29_c =>
  LdS (m.add 2) w.drew fun x31_a x31_n x31_c =>
  LdI .i64 m w.drew fun x33 =>
  LdI .i64 (m.add 1) w.drew fun x35 =>
  herdsmanref1_Global.call x33 x35 s0 l w.drew fun r38 w0_1 =>
  w0_1.cell? (m.add 2) = some (.slice x31_a x31_n x31_c) ∧
  w0_1.cell? (t.add 2) = some (.slice x29_a x29_n x29_c) ∧
  (InB r38 x31_n <|
  wA x31_a fun p =>
  LdI .u8 (p.add (r38.toNat * 1)) w0_1 fun x40 =>
  Bx [.int .u8 x40] 5 w0_1 fun p41_s w0_2 =>
  w0_2.cell? (t.add 2) = some (.slice x29_a x29_n x29_c) ∧
  App P #[22, 22] 22 (.slice x29_a x29_n x29_c) (.slice (some p41_s) 1 1) w0_2 fun r42_a r42_n r42_c w0_3 =>
  St (t.add 2) (.slice r42_a r42_n r42_c) w0_3 fun w0_4 =>
  R4 s0 m t4 tw th t (IntKind.wrap .i64 (l + 1)) w0_4))
  (LdI .i64 (t.add 0) w fun x44_W =>
  LdI .i64 (t.add 1) w fun x44_H =>
  LdS (t.add 2) w fun x44_C_a x44_C_n x44_C_c =>
  St (t4.add 0) (.int .i64 x44_W) w fun w0_5 =>
  St (t4.add 1) (.int .i64 x44_H) w0_5 fun w0_6 =>
  St (t4.add 2) (.slice x44_C_a x44_C_n x44_C_c) w0_6 fun w0_7 =>
  LdI .i64 (t4.add 0) w0_7 fun r4_W =>
  LdI .i64 (t4.add 1) w0_7 fun r4_H =>
  LdS (t4.add 2) w0_7 fun r4_C_a r4_C_n r4_C_c =>
  Q r4_W r4_H r4_C_a r4_C_n r4_C_c w0_7)
def herdsmanref1_TileOf.b4 (Q : Int → Int → Option Addr → Nat → Nat → World → Prop) : Nat → Int → Addr → Addr → Int → Int → Addr → Int → World → Prop
  | 0, _, _, _, _, _, _, _, _ => False
  | k + 1, s0, m, t4, tw, th, t, l, w => herdsmanref1_TileOf.s4 Q (herdsmanref1_TileOf.b4 Q k) s0 m t4 tw th t l w
def herdsmanref1_TileOf.sh (m_W : Int) (m_H : Int) (m_C_a : Option Addr) (m_C_n : Nat) (m_C_c : Nat) (s0 : Int) (w : World) (Q : Int → Int → Option Addr → Nat → Nat → World → Prop) : Prop :=
  Bx [.int .i64 m_W, .int .i64 m_H, .slice m_C_a m_C_n m_C_c] 55 w fun m_b w0_1 =>
  Al T 69 w0_1 fun p4 w0_2 =>
  LdI .i64 m_b w0_2 fun x11 =>
  LdI .i64 (m_b.add 1) w0_2 fun x13 =>
  herdsmanref1_Size.call x11 x13 s0 w0_2 fun r15_0 r15_1 w0_3 =>
  Al T 69 w0_3 fun t w0_4 =>
  St (t.add 0) (.int .i64 r15_0) w0_4 fun w0_5 =>
  St (t.add 1) (.int .i64 r15_1) w0_5 fun w0_6 =>
  St (t.add 2) (.slice none 0 0) w0_6 fun w0_7 =>
  ∃ k', herdsmanref1_TileOf.b4 Q k' s0 m_b p4 r15_0 r15_1 t 0 w0_7
noncomputable def herdsmanref1_TileOf.scr : Scrs := [(6, .op 0 (.op 1 (.op 2 (.op 3 (.op 4 (.op 5 (.op 6 (.op 7 (.op 8 (.op 9 (.op 10 (.op 11 (.op 12 (.op 13 (.op 14 (.op 15 (.op 16 .done)))))))))))))))))]
def herdsmanref1_TileOf.R (Q : Int → Int → Option Addr → Nat → Nat → World → Prop) (ρ : Env) (w : World) : Prop := evRes (cx 45) Go.Proofs.Try.f39.results.toList ρ w fun vs => herdsmanref1_TileOf.qv Q (resV vs) w
def herdsmanref1_TileOf.d4 (K : Int → Addr → Addr → Int → Int → Addr → Int → Prop) (ρ : Env) : Prop :=
  dI .i64 (ρ 1) fun s0 => dP (ρ 2) fun m_p => wA m_p fun m => dP (ρ 4) fun t4_p => wA t4_p fun t4 => dI .i64 (ρ 5) fun tw => dI .i64 (ρ 6) fun th => dP (ρ 7) fun t_p => wA t_p fun t => dI .i64 (ρ 8) fun l => K s0 m t4 tw th t l
theorem herdsmanref1_TileOf.d4_elim {K : Int → Addr → Addr → Int → Int → Addr → Int → Prop} {ρ : Env} (h0 : herdsmanref1_TileOf.d4 K ρ) : ∃ (s0 : Int) (m : Addr) (t4 : Addr) (tw : Int) (th : Int) (t : Addr) (l : Int), ρ 1 = .int .i64 s0 ∧ ρ 2 = .pointer (some m) ∧ ρ 4 = .pointer (some t4) ∧ ρ 5 = .int .i64 tw ∧ ρ 6 = .int .i64 th ∧ ρ 7 = .pointer (some t) ∧ ρ 8 = .int .i64 l ∧ K s0 m t4 tw th t l := by
  obtain ⟨s0, e1, h1⟩ := dI_elim h0
  obtain ⟨m_p, e2, h2⟩ := dP_elim h1
  obtain ⟨m, rfl, h3⟩ := wA_elim h2
  obtain ⟨t4_p, e4, h4⟩ := dP_elim h3
  obtain ⟨t4, rfl, h5⟩ := wA_elim h4
  obtain ⟨tw, e5, h6⟩ := dI_elim h5
  obtain ⟨th, e6, h7⟩ := dI_elim h6
  obtain ⟨t_p, e7, h8⟩ := dP_elim h7
  obtain ⟨t, rfl, h9⟩ := wA_elim h8
  obtain ⟨l, e8, h10⟩ := dI_elim h9
  exact ⟨s0, m, t4, tw, th, t, l, e1, e2, e4, e5, e6, e7, e8, h10⟩
set_option maxRecDepth 100000 in
theorem herdsmanref1_TileOf.f4 (Q : Int → Int → Option Addr → Nat → Nat → World → Prop) : ∀ k s0 m t4 tw th t l w, herdsmanref1_TileOf.b4 Q k s0 m t4 tw th t l w → ∀ ρ : Env, ρ 1 = .int .i64 s0 → ρ 2 = .pointer (some m) → ρ 4 = .pointer (some t4) → ρ 5 = .int .i64 tw → ρ 6 = .int .i64 th → ρ 7 = .pointer (some t) → ρ 8 = .int .i64 l → Fin (cx 45) (todoOf Go.Proofs.Try.f39 4) ρ w (herdsmanref1_TileOf.R Q) := by
  intro k
  induction k with
  | zero => intro s0 m t4 tw th t l w h; exact h.elim
  | succ k ih =>
    intro s0 m t4 tw th t l w h ρ e1 e2 e4 e5 e6 e7 e8
    have h : herdsmanref1_TileOf.s4 Q (herdsmanref1_TileOf.b4 Q k) s0 m t4 tw th t l w := h
    refine Fin.cut (ρ' := put (put (put (put (put (put (put (ρ) (some 1) (.int .i64 s0)) (some 2) (.pointer (some m))) (some 4) (.pointer (some t4))) (some 5) (.int .i64 tw)) (some 6) (.int .i64 th)) (some 7) (.pointer (some t))) (some 8) (.int .i64 l)) ?_ (by rw [put_id e1, put_id e2, put_id e4, put_id e5, put_id e6, put_id e7, put_id e8])
    refine evT_sound (ok 45) (drawD_sound (ok 45) herdsmanref1_TileOf.scr) 600 (L := [(4, fun ρ w => herdsmanref1_TileOf.d4 (fun s0 m t4 tw th t l => herdsmanref1_TileOf.b4 Q k s0 m t4 tw th t l w) ρ)]) (leaf_of (fn := Go.Proofs.Try.f39) [4] (by kernel_rfl) ⟨fun ρ w h => by obtain ⟨s0, m, t4, tw, th, t, l, e1, e2, e4, e5, e6, e7, e8, h⟩ := herdsmanref1_TileOf.d4_elim (ρ := ρ) h; exact ih s0 m t4 tw th t l w h ρ e1 e2 e4 e5 e6 e7 e8, trivial⟩) (castK h (by kernel_rfl))
set_option maxRecDepth 100000 in
theorem herdsmanref1_TileOf.body (m_W : Int) (m_H : Int) (m_C_a : Option Addr) (m_C_n : Nat) (m_C_c : Nat) (s0 : Int) (w : World) (Q : Int → Int → Option Addr → Nat → Nat → World → Prop) (h : herdsmanref1_TileOf.sh m_W m_H m_C_a m_C_n m_C_c s0 w Q) : herdsmanref1_TileOf.call m_W m_H m_C_a m_C_n m_C_c s0 w Q := by
  refine call_fn (ok 45) (fn := Go.Proofs.Try.f39) (args := [.agg #[.int .i64 m_W, .int .i64 m_H, .slice m_C_a m_C_n m_C_c], .int .i64 s0]) (K := herdsmanref1_TileOf.qv Q) Go.Proofs.Try.func39 (by kernel_rfl) (by kernel_rfl) (by kernel_rfl) ?_
  refine evT_sound (ok 45) (drawD_sound (ok 45) herdsmanref1_TileOf.scr) 600 (L := [(4, fun ρ w => herdsmanref1_TileOf.d4 (fun s0 m t4 tw th t l => ∃ k', herdsmanref1_TileOf.b4 Q k' s0 m t4 tw th t l w) ρ)]) (leaf_of (fn := Go.Proofs.Try.f39) [4] (by kernel_rfl) ⟨fun ρ w h => by obtain ⟨s0, m, t4, tw, th, t, l, e1, e2, e4, e5, e6, e7, e8, h⟩ := herdsmanref1_TileOf.d4_elim (ρ := ρ) h; obtain ⟨k', h⟩ := h; exact herdsmanref1_TileOf.f4 Q k' s0 m t4 tw th t l w h ρ e1 e2 e4 e5 e6 e7 e8, trivial⟩) (castK h (by kernel_rfl))
/-! ### 30 herdsman/herdsmanref1.PutMap -/
def herdsmanref1_PutMap.s3 (Q : Option Addr → Nat → Nat → World → Prop) (R3 : Addr → Option Addr → Nat → Nat → Int → World → Prop) (m : Addr) (b_a : Option Addr) (b_n : Nat) (b_c : Nat) (s0 : Int) (w : World) : Prop :=
  LdI .i64 m w fun x24 =>
  LdI .i64 (m.add 1) w fun x26 =>
  herdsmanref1_Count.call x24 x26 w fun r27 w0_1 =>
  cond (decide (s0 < r27))
  (LdI .i64 (m.add 0) w0_1 fun x32_W =>
  LdI .i64 (m.add 1) w0_1 fun x32_H =>
  LdS (m.add 2) w0_1 fun x32_C_a x32_C_n x32_C_c =>
  herdsmanref1_TileOf.call x32_W x32_H x32_C_a x32_C_n x32_C_c s0 w0_1 fun r34_0 r34_1 r34_2_a r34_2_n r34_2_c w0_2 =>
  herdsmanref1_PutTile.call r34_0 r34_1 r34_2_a r34_2_n r34_2_c w0_2 fun r35_0 r35_1_a r35_1_n r35_1_c w0_3 =>
  App P #[22, 22] 22 (.slice b_a b_n b_c) (.slice r35_1_a r35_1_n r35_1_c) w0_3 fun r40_a r40_n r40_c w0_4 =>
  R3 m r40_a r40_n r40_c (IntKind.wrap .i64 (s0 + 1)) w0_4)
  (Q b_a b_n b_c w0_1)
def herdsmanref1_PutMap.b3 (Q : Option Addr → Nat → Nat → World → Prop) : Nat → Addr → Option Addr → Nat → Nat → Int → World → Prop
  | 0, _, _, _, _, _, _ => False
  | k + 1, m, b_a, b_n, b_c, s0, w => herdsmanref1_PutMap.s3 Q (herdsmanref1_PutMap.b3 Q k) m b_a b_n b_c s0 w
def herdsmanref1_PutMap.sh (m_W : Int) (m_H : Int) (m_C_a : Option Addr) (m_C_n : Nat) (m_C_c : Nat) (w : World) (Q : Option Addr → Nat → Nat → World → Prop) : Prop :=
  Bx [.int .i64 m_W, .int .i64 m_H, .slice m_C_a m_C_n m_C_c] 55 w fun m_b w0_1 =>
  LdI .i64 m_b w0_1 fun x8 =>
  LdI .i64 m_b w0_1 fun x11 =>
  NNg 8 <|
  LdI .i64 (m_b.add 1) w0_1 fun x15 =>
  LdI .i64 (m_b.add 1) w0_1 fun x18 =>
  NNg 8 <|
  Bx [.int .u8 (IntKind.wrap .u8 x8), .int .u8 (IntKind.wrap .u8 (ishr .i64 x11 8)), .int .u8 (IntKind.wrap .u8 x15), .int .u8 (IntKind.wrap .u8 (ishr .i64 x18 8))] 5 w0_1 fun p21_s w0_2 =>
  ∃ k', herdsmanref1_PutMap.b3 Q k' m_b (some p21_s) 4 4 0 w0_2
noncomputable def herdsmanref1_PutMap.scr : Scrs := []
def herdsmanref1_PutMap.R (Q : Option Addr → Nat → Nat → World → Prop) (ρ : Env) (w : World) : Prop := evRes (cx 42) Go.Proofs.Try.f30.results.toList ρ w fun vs => herdsmanref1_PutMap.qv Q (resV vs) w
def herdsmanref1_PutMap.d3 (K : Addr → Option Addr → Nat → Nat → Int → Prop) (ρ : Env) : Prop :=
  dP (ρ 1) fun m_p => wA m_p fun m => dS (ρ 3) fun b_a b_n b_c => dI .i64 (ρ 4) fun s0 => K m b_a b_n b_c s0
theorem herdsmanref1_PutMap.d3_elim {K : Addr → Option Addr → Nat → Nat → Int → Prop} {ρ : Env} (h0 : herdsmanref1_PutMap.d3 K ρ) : ∃ (m : Addr) (b_a : Option Addr) (b_n : Nat) (b_c : Nat) (s0 : Int), ρ 1 = .pointer (some m) ∧ ρ 3 = .slice b_a b_n b_c ∧ ρ 4 = .int .i64 s0 ∧ K m b_a b_n b_c s0 := by
  obtain ⟨m_p, e1, h1⟩ := dP_elim h0
  obtain ⟨m, rfl, h2⟩ := wA_elim h1
  obtain ⟨b_a, b_n, b_c, e3, h3⟩ := dS_elim h2
  obtain ⟨s0, e4, h4⟩ := dI_elim h3
  exact ⟨m, b_a, b_n, b_c, s0, e1, e3, e4, h4⟩
set_option maxRecDepth 100000 in
theorem herdsmanref1_PutMap.f3 (Q : Option Addr → Nat → Nat → World → Prop) : ∀ k m b_a b_n b_c s0 w, herdsmanref1_PutMap.b3 Q k m b_a b_n b_c s0 w → ∀ ρ : Env, ρ 1 = .pointer (some m) → ρ 3 = .slice b_a b_n b_c → ρ 4 = .int .i64 s0 → Fin (cx 42) (todoOf Go.Proofs.Try.f30 3) ρ w (herdsmanref1_PutMap.R Q) := by
  intro k
  induction k with
  | zero => intro m b_a b_n b_c s0 w h; exact h.elim
  | succ k ih =>
    intro m b_a b_n b_c s0 w h ρ e1 e3 e4
    have h : herdsmanref1_PutMap.s3 Q (herdsmanref1_PutMap.b3 Q k) m b_a b_n b_c s0 w := h
    refine Fin.cut (ρ' := put (put (put (ρ) (some 1) (.pointer (some m))) (some 3) (.slice b_a b_n b_c)) (some 4) (.int .i64 s0)) ?_ (by rw [put_id e1, put_id e3, put_id e4])
    refine evT_sound (ok 42) (drawD_sound (ok 42) herdsmanref1_PutMap.scr) 600 (L := [(3, fun ρ w => herdsmanref1_PutMap.d3 (fun m b_a b_n b_c s0 => herdsmanref1_PutMap.b3 Q k m b_a b_n b_c s0 w) ρ)]) (leaf_of (fn := Go.Proofs.Try.f30) [3] (by kernel_rfl) ⟨fun ρ w h => by obtain ⟨m, b_a, b_n, b_c, s0, e1, e3, e4, h⟩ := herdsmanref1_PutMap.d3_elim (ρ := ρ) h; exact ih m b_a b_n b_c s0 w h ρ e1 e3 e4, trivial⟩) (castK h (by kernel_rfl))
set_option maxRecDepth 100000 in
theorem herdsmanref1_PutMap.body (m_W : Int) (m_H : Int) (m_C_a : Option Addr) (m_C_n : Nat) (m_C_c : Nat) (w : World) (Q : Option Addr → Nat → Nat → World → Prop) (h : herdsmanref1_PutMap.sh m_W m_H m_C_a m_C_n m_C_c w Q) : herdsmanref1_PutMap.call m_W m_H m_C_a m_C_n m_C_c w Q := by
  refine call_fn (ok 42) (fn := Go.Proofs.Try.f30) (args := [.agg #[.int .i64 m_W, .int .i64 m_H, .slice m_C_a m_C_n m_C_c]]) (K := herdsmanref1_PutMap.qv Q) Go.Proofs.Try.func30 (by kernel_rfl) (by kernel_rfl) (by kernel_rfl) ?_
  refine evT_sound (ok 42) (drawD_sound (ok 42) herdsmanref1_PutMap.scr) 600 (L := [(3, fun ρ w => herdsmanref1_PutMap.d3 (fun m b_a b_n b_c s0 => ∃ k', herdsmanref1_PutMap.b3 Q k' m b_a b_n b_c s0 w) ρ)]) (leaf_of (fn := Go.Proofs.Try.f30) [3] (by kernel_rfl) ⟨fun ρ w h => by obtain ⟨m, b_a, b_n, b_c, s0, e1, e3, e4, h⟩ := herdsmanref1_PutMap.d3_elim (ρ := ρ) h; obtain ⟨k', h⟩ := h; exact herdsmanref1_PutMap.f3 Q k' m b_a b_n b_c s0 w h ρ e1 e3 e4, trivial⟩) (castK h (by kernel_rfl))
/-! ### 32 herdsman/herdsmanref26.Odd -/
def herdsmanref26_Odd.b2 (Q : Int → Int → Int → Option Addr → Nat → Nat → World → Prop) (n : Int) (x : Addr) (t4 : Addr) (o : Addr) (w : World) : Prop :=
  LdI .i64 o w fun x19 =>
  cond (x19 == 1)
  (LdI .i64 (x.add 1) w.drew fun x23 =>
  LdI .i64 (x.add 2) w.drew fun x26 =>
  (Bx [.int .u8 2, .int .u8 0, .int .u8 1, .int .u8 0, .int .u8 1, .int .u8 (IntKind.wrap .u8 x23), .int .u8 (IntKind.wrap .u8 x26)] 5 w.drew fun p28_s w0_1 =>
  St (o.add 1) (.int .i64 0) w0_1 fun w0_2 =>
  w0_2.cell? (x.add 2) = some (.int .i64 x26) ∧
  w0_2.cell? (x.add 1) = some (.int .i64 x23) ∧
  St (o.add 2) (.int .i64 0) w0_2 fun w0_3 =>
  w0_3.cell? (x.add 2) = some (.int .i64 x26) ∧
  w0_3.cell? (x.add 1) = some (.int .i64 x23) ∧
  St (o.add 3) (.slice (some p28_s) 7 7) w0_3 fun w0_4 =>
  LdI .i64 (o.add 0) w0_4 fun x48_Kind =>
  LdI .i64 (o.add 1) w0_4 fun x48_A =>
  LdI .i64 (o.add 2) w0_4 fun x48_B =>
  LdS (o.add 3) w0_4 fun x48_Map_a x48_Map_n x48_Map_c =>
  St (t4.add 0) (.int .i64 x48_Kind) w0_4 fun w0_5 =>
  St (t4.add 1) (.int .i64 x48_A) w0_5 fun w0_6 =>
  St (t4.add 2) (.int .i64 x48_B) w0_6 fun w0_7 =>
  St (t4.add 3) (.slice x48_Map_a x48_Map_n x48_Map_c) w0_7 fun w0_8 =>
  LdI .i64 (t4.add 0) w0_8 fun r4_Kind =>
  LdI .i64 (t4.add 1) w0_8 fun r4_A =>
  LdI .i64 (t4.add 2) w0_8 fun r4_B =>
  LdS (t4.add 3) w0_8 fun r4_Map_a r4_Map_n r4_Map_c =>
  Q r4_Kind r4_A r4_B r4_Map_a r4_Map_n r4_Map_c w0_8) ∧
  (St (o.add 1) (.int .i64 0) w.drew fun w0_9 =>
  w0_9.cell? (x.add 2) = some (.int .i64 x26) ∧
  w0_9.cell? (x.add 1) = some (.int .i64 x23) ∧
  (Bx [.int .u8 2, .int .u8 0, .int .u8 1, .int .u8 0, .int .u8 1, .int .u8 (IntKind.wrap .u8 x23), .int .u8 (IntKind.wrap .u8 x26)] 5 w0_9 fun p28_s_1 w0_10 =>
  St (o.add 2) (.int .i64 0) w0_10 fun w0_11 =>
  w0_11.cell? (x.add 2) = some (.int .i64 x26) ∧
  w0_11.cell? (x.add 1) = some (.int .i64 x23) ∧
  St (o.add 3) (.slice (some p28_s_1) 7 7) w0_11 fun w0_12 =>
  LdI .i64 (o.add 0) w0_12 fun x48_Kind_1 =>
  LdI .i64 (o.add 1) w0_12 fun x48_A_1 =>
  LdI .i64 (o.add 2) w0_12 fun x48_B_1 =>
  LdS (o.add 3) w0_12 fun x48_Map_a_1 x48_Map_n_1 x48_Map_c_1 =>
  St (t4.add 0) (.int .i64 x48_Kind_1) w0_12 fun w0_13 =>
  St (t4.add 1) (.int .i64 x48_A_1) w0_13 fun w0_14 =>
  St (t4.add 2) (.int .i64 x48_B_1) w0_14 fun w0_15 =>
  St (t4.add 3) (.slice x48_Map_a_1 x48_Map_n_1 x48_Map_c_1) w0_15 fun w0_16 =>
  LdI .i64 (t4.add 0) w0_16 fun r4_Kind_1 =>
  LdI .i64 (t4.add 1) w0_16 fun r4_A_1 =>
  LdI .i64 (t4.add 2) w0_16 fun r4_B_1 =>
  LdS (t4.add 3) w0_16 fun r4_Map_a_1 r4_Map_n_1 r4_Map_c_1 =>
  Q r4_Kind_1 r4_A_1 r4_B_1 r4_Map_a_1 r4_Map_n_1 r4_Map_c_1 w0_16) ∧
  (St (o.add 2) (.int .i64 0) w0_9 fun w0_17 =>
  w0_17.cell? (x.add 2) = some (.int .i64 x26) ∧
  w0_17.cell? (x.add 1) = some (.int .i64 x23) ∧
  Bx [.int .u8 2, .int .u8 0, .int .u8 1, .int .u8 0, .int .u8 1, .int .u8 (IntKind.wrap .u8 x23), .int .u8 (IntKind.wrap .u8 x26)] 5 w0_17 fun p28_s_2 w0_18 =>
  St (o.add 3) (.slice (some p28_s_2) 7 7) w0_18 fun w0_19 =>
  LdI .i64 (o.add 0) w0_19 fun x48_Kind_2 =>
  LdI .i64 (o.add 1) w0_19 fun x48_A_2 =>
  LdI .i64 (o.add 2) w0_19 fun x48_B_2 =>
  LdS (o.add 3) w0_19 fun x48_Map_a_2 x48_Map_n_2 x48_Map_c_2 =>
  St (t4.add 0) (.int .i64 x48_Kind_2) w0_19 fun w0_20 =>
  St (t4.add 1) (.int .i64 x48_A_2) w0_20 fun w0_21 =>
  St (t4.add 2) (.int .i64 x48_B_2) w0_21 fun w0_22 =>
  St (t4.add 3) (.slice x48_Map_a_2 x48_Map_n_2 x48_Map_c_2) w0_22 fun w0_23 =>
  LdI .i64 (t4.add 0) w0_23 fun r4_Kind_2 =>
  LdI .i64 (t4.add 1) w0_23 fun r4_A_2 =>
  LdI .i64 (t4.add 2) w0_23 fun r4_B_2 =>
  LdS (t4.add 3) w0_23 fun r4_Map_a_2 r4_Map_n_2 r4_Map_c_2 =>
  Q r4_Kind_2 r4_A_2 r4_B_2 r4_Map_a_2 r4_Map_n_2 r4_Map_c_2 w0_23)))
  (cond (x19 == 2)
  (LdI .i64 (x.add 1) w fun x35 =>
  herdsmanref1_Within.call x35 0 (IntKind.wrap .i64 (n - 1)) w fun r38 w0_24 =>
  St (o.add 1) (.int .i64 r38) w0_24 fun w0_25 =>
  LdI .i64 (x.add 1) w0_25 fun x41 =>
  herdsmanref1_Within.call x41 0 1 w0_25 fun r42 w0_26 =>
  St (o.add 2) (.int .i64 (IntKind.wrap .i64 (r42 * 255))) w0_26 fun w0_27 =>
  LdI .i64 (o.add 0) w0_27 fun x48_Kind_3 =>
  LdI .i64 (o.add 1) w0_27 fun x48_A_3 =>
  LdI .i64 (o.add 2) w0_27 fun x48_B_3 =>
  LdS (o.add 3) w0_27 fun x48_Map_a_3 x48_Map_n_3 x48_Map_c_3 =>
  St (t4.add 0) (.int .i64 x48_Kind_3) w0_27 fun w0_28 =>
  St (t4.add 1) (.int .i64 x48_A_3) w0_28 fun w0_29 =>
  St (t4.add 2) (.int .i64 x48_B_3) w0_29 fun w0_30 =>
  St (t4.add 3) (.slice x48_Map_a_3 x48_Map_n_3 x48_Map_c_3) w0_30 fun w0_31 =>
  LdI .i64 (t4.add 0) w0_31 fun r4_Kind_3 =>
  LdI .i64 (t4.add 1) w0_31 fun r4_A_3 =>
  LdI .i64 (t4.add 2) w0_31 fun r4_B_3 =>
  LdS (t4.add 3) w0_31 fun r4_Map_a_3 r4_Map_n_3 r4_Map_c_3 =>
  Q r4_Kind_3 r4_A_3 r4_B_3 r4_Map_a_3 r4_Map_n_3 r4_Map_c_3 w0_31)
  (cond (x19 == 5)
  (St (o.add 2) (.int .i64 0) w fun w0_32 =>
  LdI .i64 (o.add 0) w0_32 fun x48_Kind_4 =>
  LdI .i64 (o.add 1) w0_32 fun x48_A_4 =>
  LdI .i64 (o.add 2) w0_32 fun x48_B_4 =>
  LdS (o.add 3) w0_32 fun x48_Map_a_4 x48_Map_n_4 x48_Map_c_4 =>
  St (t4.add 0) (.int .i64 x48_Kind_4) w0_32 fun w0_33 =>
  St (t4.add 1) (.int .i64 x48_A_4) w0_33 fun w0_34 =>
  St (t4.add 2) (.int .i64 x48_B_4) w0_34 fun w0_35 =>
  St (t4.add 3) (.slice x48_Map_a_4 x48_Map_n_4 x48_Map_c_4) w0_35 fun w0_36 =>
  LdI .i64 (t4.add 0) w0_36 fun r4_Kind_4 =>
  LdI .i64 (t4.add 1) w0_36 fun r4_A_4 =>
  LdI .i64 (t4.add 2) w0_36 fun r4_B_4 =>
  LdS (t4.add 3) w0_36 fun r4_Map_a_4 r4_Map_n_4 r4_Map_c_4 =>
  Q r4_Kind_4 r4_A_4 r4_B_4 r4_Map_a_4 r4_Map_n_4 r4_Map_c_4 w0_36)
  (LdI .i64 (o.add 0) w fun x48_Kind_5 =>
  LdI .i64 (o.add 1) w fun x48_A_5 =>
  LdI .i64 (o.add 2) w fun x48_B_5 =>
  LdS (o.add 3) w fun x48_Map_a_5 x48_Map_n_5 x48_Map_c_5 =>
  St (t4.add 0) (.int .i64 x48_Kind_5) w fun w0_37 =>
  St (t4.add 1) (.int .i64 x48_A_5) w0_37 fun w0_38 =>
  St (t4.add 2) (.int .i64 x48_B_5) w0_38 fun w0_39 =>
  St (t4.add 3) (.slice x48_Map_a_5 x48_Map_n_5 x48_Map_c_5) w0_39 fun w0_40 =>
  LdI .i64 (t4.add 0) w0_40 fun r4_Kind_5 =>
  LdI .i64 (t4.add 1) w0_40 fun r4_A_5 =>
  LdI .i64 (t4.add 2) w0_40 fun r4_B_5 =>
  LdS (t4.add 3) w0_40 fun r4_Map_a_5 r4_Map_n_5 r4_Map_c_5 =>
  Q r4_Kind_5 r4_A_5 r4_B_5 r4_Map_a_5 r4_Map_n_5 r4_Map_c_5 w0_40)))
def herdsmanref26_Odd.sh (x_Kind : Int) (x_A : Int) (x_B : Int) (n : Int) (w : World) (Q : Int → Int → Int → Option Addr → Nat → Nat → World → Prop) : Prop :=
  Bx [.int .i64 x_Kind, .int .i64 x_A, .int .i64 x_B] 59 w fun x_b w0_1 =>
  Al T 30 w0_1 fun p4 w0_2 =>
  LdI .i64 (x_b.add 2) w0_2.drew fun x7 =>
  LdI .i64 (x_b.add 1) w0_2.drew fun x11 =>
  LdI .i64 (x_b.add 1) w0_2.drew fun x15 =>
  (herdsmanref1_Within.call x7 1 6 w0_2.drew fun r8 w0_3 =>
  w0_3.cell? (x_b.add 1) = some (.int .i64 x15) ∧
  w0_3.cell? (x_b.add 1) = some (.int .i64 x11) ∧
  (herdsmanref1_Within.call x11 0 5 w0_3 fun r12 w0_4 =>
  w0_4.cell? (x_b.add 1) = some (.int .i64 x15) ∧
  (herdsmanref1_Within.call x15 0 9 w0_4 fun r16 w0_5 =>
  Al T 30 w0_5 fun o w0_6 =>
  w0_6.cell? (x_b.add 1) = some (.int .i64 x15) ∧
  w0_6.cell? (x_b.add 1) = some (.int .i64 x11) ∧
  w0_6.cell? (x_b.add 2) = some (.int .i64 x7) ∧
  St (o.add 0) (.int .i64 r8) w0_6 fun w0_7 =>
  St (o.add 1) (.int .i64 (IntKind.wrap .i64 (n + r12))) w0_7 fun w0_8 =>
  St (o.add 2) (.int .i64 r16) w0_8 fun w0_9 =>
  St (o.add 3) (.slice none 0 0) w0_9 fun w0_10 =>
  herdsmanref26_Odd.b2 Q n x_b p4 o w0_10) ∧
  (Al T 30 w0_4 fun o_1 w0_11 =>
  w0_11.cell? (x_b.add 1) = some (.int .i64 x15) ∧
  w0_11.cell? (x_b.add 1) = some (.int .i64 x11) ∧
  w0_11.cell? (x_b.add 2) = some (.int .i64 x7) ∧
  herdsmanref1_Within.call x15 0 9 w0_11 fun r16_1 w0_12 =>
  St (o_1.add 0) (.int .i64 r8) w0_12 fun w0_13 =>
  St (o_1.add 1) (.int .i64 (IntKind.wrap .i64 (n + r12))) w0_13 fun w0_14 =>
  St (o_1.add 2) (.int .i64 r16_1) w0_14 fun w0_15 =>
  St (o_1.add 3) (.slice none 0 0) w0_15 fun w0_16 =>
  herdsmanref26_Odd.b2 Q n x_b p4 o_1 w0_16)) ∧
  (Al T 30 w0_3 fun o_2 w0_17 =>
  w0_17.cell? (x_b.add 1) = some (.int .i64 x15) ∧
  w0_17.cell? (x_b.add 1) = some (.int .i64 x11) ∧
  w0_17.cell? (x_b.add 2) = some (.int .i64 x7) ∧
  herdsmanref1_Within.call x11 0 5 w0_17 fun r12_1 w0_18 =>
  w0_18.cell? (x_b.add 1) = some (.int .i64 x15) ∧
  herdsmanref1_Within.call x15 0 9 w0_18 fun r16_2 w0_19 =>
  St (o_2.add 0) (.int .i64 r8) w0_19 fun w0_20 =>
  St (o_2.add 1) (.int .i64 (IntKind.wrap .i64 (n + r12_1))) w0_20 fun w0_21 =>
  St (o_2.add 2) (.int .i64 r16_2) w0_21 fun w0_22 =>
  St (o_2.add 3) (.slice none 0 0) w0_22 fun w0_23 =>
  herdsmanref26_Odd.b2 Q n x_b p4 o_2 w0_23)) ∧
  (Al T 30 w0_2.drew fun o_3 w0_24 =>
  w0_24.cell? (x_b.add 1) = some (.int .i64 x15) ∧
  w0_24.cell? (x_b.add 1) = some (.int .i64 x11) ∧
  w0_24.cell? (x_b.add 2) = some (.int .i64 x7) ∧
  herdsmanref1_Within.call x7 1 6 w0_24 fun r8_1 w0_25 =>
  w0_25.cell? (x_b.add 1) = some (.int .i64 x15) ∧
  w0_25.cell? (x_b.add 1) = some (.int .i64 x11) ∧
  herdsmanref1_Within.call x11 0 5 w0_25 fun r12_2 w0_26 =>
  w0_26.cell? (x_b.add 1) = some (.int .i64 x15) ∧
  herdsmanref1_Within.call x15 0 9 w0_26 fun r16_3 w0_27 =>
  St (o_3.add 0) (.int .i64 r8_1) w0_27 fun w0_28 =>
  St (o_3.add 1) (.int .i64 (IntKind.wrap .i64 (n + r12_2))) w0_28 fun w0_29 =>
  St (o_3.add 2) (.int .i64 r16_3) w0_29 fun w0_30 =>
  St (o_3.add 3) (.slice none 0 0) w0_30 fun w0_31 =>
  herdsmanref26_Odd.b2 Q n x_b p4 o_3 w0_31)
noncomputable def herdsmanref26_Odd.scr : Scrs := [(1, .op 0 (.op 1 (.op 3 (.op 4 (.op 5 (.op 8 (.op 9 (.br (.op 2 (.br (.op 6 (.op 7 (.br (.op 10 (.op 11 (.op 12 (.op 13 .done)))) (.op 12 (.op 10 (.op 11 (.op 13 .done))))))) (.op 12 (.op 6 (.op 7 (.op 10 (.op 11 (.op 13 .done)))))))) (.op 12 (.op 2 (.op 6 (.op 7 (.op 10 (.op 11 (.op 13 .done))))))))))))))), (4, .op 0 (.op 1 (.op 2 (.op 3 (.op 4 (.op 5 (.op 7 (.br (.op 6 (.op 8 (.op 9 (.op 10 (.op 11 (.op 12 .done)))))) (.op 8 (.op 9 (.br (.op 6 (.op 10 (.op 11 (.op 12 .done)))) (.op 10 (.op 6 (.op 11 (.op 12 .done)))))))))))))))]
def herdsmanref26_Odd.R (Q : Int → Int → Int → Option Addr → Nat → Nat → World → Prop) (ρ : Env) (w : World) : Prop := evRes (cx 49) Go.Proofs.Try.f32.results.toList ρ w fun vs => herdsmanref26_Odd.qv Q (resV vs) w
def herdsmanref26_Odd.d2 (K : Int → Addr → Addr → Addr → Prop) (ρ : Env) : Prop :=
  dI .i64 (ρ 1) fun n => dP (ρ 2) fun x_p => wA x_p fun x => dP (ρ 4) fun t4_p => wA t4_p fun t4 => dP (ρ 5) fun o_p => wA o_p fun o => K n x t4 o
theorem herdsmanref26_Odd.d2_elim {K : Int → Addr → Addr → Addr → Prop} {ρ : Env} (h0 : herdsmanref26_Odd.d2 K ρ) : ∃ (n : Int) (x : Addr) (t4 : Addr) (o : Addr), ρ 1 = .int .i64 n ∧ ρ 2 = .pointer (some x) ∧ ρ 4 = .pointer (some t4) ∧ ρ 5 = .pointer (some o) ∧ K n x t4 o := by
  obtain ⟨n, e1, h1⟩ := dI_elim h0
  obtain ⟨x_p, e2, h2⟩ := dP_elim h1
  obtain ⟨x, rfl, h3⟩ := wA_elim h2
  obtain ⟨t4_p, e4, h4⟩ := dP_elim h3
  obtain ⟨t4, rfl, h5⟩ := wA_elim h4
  obtain ⟨o_p, e5, h6⟩ := dP_elim h5
  obtain ⟨o, rfl, h7⟩ := wA_elim h6
  exact ⟨n, x, t4, o, e1, e2, e4, e5, h7⟩
set_option maxRecDepth 100000 in
theorem herdsmanref26_Odd.f2 (Q : Int → Int → Int → Option Addr → Nat → Nat → World → Prop) : ∀ n x t4 o w, herdsmanref26_Odd.b2 Q n x t4 o w → ∀ ρ : Env, ρ 1 = .int .i64 n → ρ 2 = .pointer (some x) → ρ 4 = .pointer (some t4) → ρ 5 = .pointer (some o) → Fin (cx 49) (todoOf Go.Proofs.Try.f32 2) ρ w (herdsmanref26_Odd.R Q) := by
  intro n x t4 o w h ρ e1 e2 e4 e5
  refine Fin.cut (ρ' := put (put (put (put (ρ) (some 1) (.int .i64 n)) (some 2) (.pointer (some x))) (some 4) (.pointer (some t4))) (some 5) (.pointer (some o))) ?_ (by rw [put_id e1, put_id e2, put_id e4, put_id e5])
  refine evT_sound (ok 49) (drawD_sound (ok 49) herdsmanref26_Odd.scr) 600 (L := []) (leaf_of (fn := Go.Proofs.Try.f32) [] (by kernel_rfl) trivial) (castK h (by kernel_rfl))
set_option maxRecDepth 100000 in
theorem herdsmanref26_Odd.body (x_Kind : Int) (x_A : Int) (x_B : Int) (n : Int) (w : World) (Q : Int → Int → Int → Option Addr → Nat → Nat → World → Prop) (h : herdsmanref26_Odd.sh x_Kind x_A x_B n w Q) : herdsmanref26_Odd.call x_Kind x_A x_B n w Q := by
  refine call_fn (ok 49) (fn := Go.Proofs.Try.f32) (args := [.agg #[.int .i64 x_Kind, .int .i64 x_A, .int .i64 x_B], .int .i64 n]) (K := herdsmanref26_Odd.qv Q) Go.Proofs.Try.func32 (by kernel_rfl) (by kernel_rfl) (by kernel_rfl) ?_
  refine evT_sound (ok 49) (drawD_sound (ok 49) herdsmanref26_Odd.scr) 600 (L := [(2, fun ρ w => herdsmanref26_Odd.d2 (fun n x t4 o => herdsmanref26_Odd.b2 Q n x t4 o w) ρ)]) (leaf_of (fn := Go.Proofs.Try.f32) [2] (by kernel_rfl) ⟨fun ρ w h => by obtain ⟨n, x, t4, o, e1, e2, e4, e5, h⟩ := herdsmanref26_Odd.d2_elim (ρ := ρ) h; exact herdsmanref26_Odd.f2 Q n x t4 o w h ρ e1 e2 e4 e5, trivial⟩) (castK h (by kernel_rfl))
end Go.Proofs.Ytjndgflalbcngaa.S
