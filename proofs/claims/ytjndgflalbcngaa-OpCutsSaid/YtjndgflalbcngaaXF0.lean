/- What the bodies ask, and that a call is no more. Printed by a program of this work (sxgen.py) out of the translation. -/
import Derived.Test.YtjndgflalbcngaaXT
set_option linter.unusedVariables false
set_option linter.unusedSimpArgs false
namespace Go.Proofs.Ytjndgflalbcngaa.S
open Go.Sx
/-! ### 24 herdsman/op.shaped -/
def op_shaped.b16 (Q : Int → Int → Bool → Bool → World → Prop) (t2 : Addr) (s0 : Addr) (w : World) : Prop :=
  LdI .i64 (s0.add 0) w fun x25_a =>
  LdI .i64 (s0.add 1) w fun x25_b =>
  LdB (s0.add 2) w fun x25_load =>
  St (t2.add 0) (.int .i64 x25_a) w fun w0_1 =>
  St (t2.add 1) (.int .i64 x25_b) w0_1 fun w0_2 =>
  St (t2.add 2) (.bool x25_load) w0_2 fun w0_3 =>
  LdI .i64 (t2.add 0) w0_3 fun r2_a =>
  LdI .i64 (t2.add 1) w0_3 fun r2_b =>
  LdB (t2.add 2) w0_3 fun r2_load =>
  Q r2_a r2_b r2_load true w0_3
def op_shaped.b13 (Q : Int → Int → Bool → Bool → World → Prop) (t2 : Addr) (s0 : Addr) (w : World) : Prop :=
  St (s0.add 1) (.int .i64 4) w fun w0_1 =>
  St s0 (.int .i64 4) w0_1 fun w0_2 =>
  op_shaped.b16 Q t2 s0 w0_2
def op_shaped.sh (kind : Int) (w : World) (Q : Int → Int → Bool → Bool → World → Prop) : Prop :=
  Al T 47 w fun p2 w0_1 =>
  Al T 47 w0_1 fun s0 w0_2 =>
  cond (kind == 1)
  (St (s0.add 2) (.bool true) w0_2 fun w0_3 =>
  op_shaped.b16 Q p2 s0 w0_3)
  (cond (kind == 2)
  (St s0 (.int .i64 4) w0_2 fun w0_4 =>
  St (s0.add 1) (.int .i64 1) w0_4 fun w0_5 =>
  op_shaped.b16 Q p2 s0 w0_5)
  (cond (kind == 3)
  (op_shaped.b13 Q p2 s0 w0_2)
  (cond (kind == 4)
  (op_shaped.b13 Q p2 s0 w0_2)
  (cond (kind == 6)
  (op_shaped.b13 Q p2 s0 w0_2)
  (cond (kind == 5)
  (St s0 (.int .i64 4) w0_2 fun w0_6 =>
  op_shaped.b16 Q p2 s0 w0_6)
  (cond (kind == 7)
  (op_shaped.b16 Q p2 s0 w0_2)
  (cond (kind == 8)
  (op_shaped.b16 Q p2 s0 w0_2)
  (St (p2.add 0) (.int .i64 0) w0_2 fun w0_7 =>
  St (p2.add 1) (.int .i64 0) w0_7 fun w0_8 =>
  St (p2.add 2) (.bool false) w0_8 fun w0_9 =>
  LdI .i64 (p2.add 0) w0_9 fun r2_a =>
  LdI .i64 (p2.add 1) w0_9 fun r2_b =>
  LdB (p2.add 2) w0_9 fun r2_load =>
  Q r2_a r2_b r2_load false w0_9))))))))
noncomputable def op_shaped.scr : Scrs := []
def op_shaped.R (Q : Int → Int → Bool → Bool → World → Prop) (ρ : Env) (w : World) : Prop := evRes (cx 26) Go.Proofs.Try.f24.results.toList ρ w fun vs => op_shaped.qv Q (resV vs) w
def op_shaped.d13 (K : Addr → Addr → Prop) (ρ : Env) : Prop :=
  dP (ρ 2) fun t2_p => wA t2_p fun t2 => dP (ρ 4) fun s_p => wA s_p fun s0 => K t2 s0
theorem op_shaped.d13_elim {K : Addr → Addr → Prop} {ρ : Env} (h0 : op_shaped.d13 K ρ) : ∃ (t2 : Addr) (s0 : Addr), ρ 2 = .pointer (some t2) ∧ ρ 4 = .pointer (some s0) ∧ K t2 s0 := by
  obtain ⟨t2_p, e2, h1⟩ := dP_elim h0
  obtain ⟨t2, rfl, h2⟩ := wA_elim h1
  obtain ⟨s_p, e4, h3⟩ := dP_elim h2
  obtain ⟨s0, rfl, h4⟩ := wA_elim h3
  exact ⟨t2, s0, e2, e4, h4⟩
def op_shaped.d16 (K : Addr → Addr → Prop) (ρ : Env) : Prop :=
  dP (ρ 2) fun t2_p => wA t2_p fun t2 => dP (ρ 4) fun s_p => wA s_p fun s0 => K t2 s0
theorem op_shaped.d16_elim {K : Addr → Addr → Prop} {ρ : Env} (h0 : op_shaped.d16 K ρ) : ∃ (t2 : Addr) (s0 : Addr), ρ 2 = .pointer (some t2) ∧ ρ 4 = .pointer (some s0) ∧ K t2 s0 := by
  obtain ⟨t2_p, e2, h1⟩ := dP_elim h0
  obtain ⟨t2, rfl, h2⟩ := wA_elim h1
  obtain ⟨s_p, e4, h3⟩ := dP_elim h2
  obtain ⟨s0, rfl, h4⟩ := wA_elim h3
  exact ⟨t2, s0, e2, e4, h4⟩
set_option maxRecDepth 100000 in
theorem op_shaped.f16 (Q : Int → Int → Bool → Bool → World → Prop) : ∀ t2 s0 w, op_shaped.b16 Q t2 s0 w → ∀ ρ : Env, ρ 2 = .pointer (some t2) → ρ 4 = .pointer (some s0) → Fin (cx 26) (todoOf Go.Proofs.Try.f24 16) ρ w (op_shaped.R Q) := by
  intro t2 s0 w h ρ e2 e4
  refine Fin.cut (ρ' := put (put (ρ) (some 2) (.pointer (some t2))) (some 4) (.pointer (some s0))) ?_ (by rw [put_id e2, put_id e4])
  refine evT_sound (ok 26) (drawD_sound (ok 26) op_shaped.scr) 600 (L := []) (leaf_of (fn := Go.Proofs.Try.f24) [] (by kernel_rfl) trivial) (castK h (by kernel_rfl))
set_option maxRecDepth 100000 in
theorem op_shaped.f13 (Q : Int → Int → Bool → Bool → World → Prop) : ∀ t2 s0 w, op_shaped.b13 Q t2 s0 w → ∀ ρ : Env, ρ 2 = .pointer (some t2) → ρ 4 = .pointer (some s0) → Fin (cx 26) (todoOf Go.Proofs.Try.f24 13) ρ w (op_shaped.R Q) := by
  intro t2 s0 w h ρ e2 e4
  refine Fin.cut (ρ' := put (put (ρ) (some 2) (.pointer (some t2))) (some 4) (.pointer (some s0))) ?_ (by rw [put_id e2, put_id e4])
  refine evT_sound (ok 26) (drawD_sound (ok 26) op_shaped.scr) 600 (L := [(16, fun ρ w => op_shaped.d16 (fun t2 s0 => op_shaped.b16 Q t2 s0 w) ρ)]) (leaf_of (fn := Go.Proofs.Try.f24) [16] (by kernel_rfl) ⟨fun ρ w h => by obtain ⟨t2, s0, e2, e4, h⟩ := op_shaped.d16_elim (ρ := ρ) h; exact op_shaped.f16 Q t2 s0 w h ρ e2 e4, trivial⟩) (castK h (by kernel_rfl))
set_option maxRecDepth 100000 in
theorem op_shaped.body (kind : Int) (w : World) (Q : Int → Int → Bool → Bool → World → Prop) (h : op_shaped.sh kind w Q) : op_shaped.call kind w Q := by
  refine call_fn (ok 26) (fn := Go.Proofs.Try.f24) (args := [.int .i64 kind]) (K := op_shaped.qv Q) Go.Proofs.Try.func24 (by kernel_rfl) (by kernel_rfl) (by kernel_rfl) ?_
  refine evT_sound (ok 26) (drawD_sound (ok 26) op_shaped.scr) 600 (L := [(13, fun ρ w => op_shaped.d13 (fun t2 s0 => op_shaped.b13 Q t2 s0 w) ρ), (16, fun ρ w => op_shaped.d16 (fun t2 s0 => op_shaped.b16 Q t2 s0 w) ρ)]) (leaf_of (fn := Go.Proofs.Try.f24) [16, 16, 13, 16, 16, 16, 13, 16, 16, 16, 13, 16, 16, 16] (by kernel_rfl) ⟨fun ρ w h => by obtain ⟨t2, s0, e2, e4, h⟩ := op_shaped.d13_elim (ρ := ρ) h; exact op_shaped.f13 Q t2 s0 w h ρ e2 e4, fun ρ w h => by obtain ⟨t2, s0, e2, e4, h⟩ := op_shaped.d16_elim (ρ := ρ) h; exact op_shaped.f16 Q t2 s0 w h ρ e2 e4, trivial⟩) (castK h (by kernel_rfl))
/-! ### 33 herdsman/op.number -/
def op_number.s3 (Q : Int → World → Prop) (R3 : Int → Option Addr → Nat → Nat → Int → Int → World → Prop) (n : Int) (t6_a : Option Addr) (t6_n : Nat) (t6_c : Nat) (t7 : Int) (t8 : Int) (w : World) : Prop :=
  cond (decide (t8 < t7))
  (InB t8 t6_n <|
  wA t6_a fun p =>
  LdI .u8 (p.add (t8.toNat * 1)) w fun x12 =>
  NNg (IntKind.wrap .i64 (8 * t8)) <|
  R3 (ior .i64 n (ishl .i64 (IntKind.wrap .i64 x12) (IntKind.wrap .i64 (8 * t8)))) t6_a t6_n t6_c t7 (IntKind.wrap .i64 (t8 + 1)) w)
  (Q n w)
def op_number.b3 (Q : Int → World → Prop) : Nat → Int → Option Addr → Nat → Nat → Int → Int → World → Prop
  | 0, _, _, _, _, _, _, _ => False
  | k + 1, n, t6_a, t6_n, t6_c, t7, t8, w => op_number.s3 Q (op_number.b3 Q k) n t6_a t6_n t6_c t7 t8 w
def op_number.sh (b_a : Option Addr) (b_n : Nat) (b_c : Nat) (w : World) (Q : Int → World → Prop) : Prop :=
  ∃ k', op_number.b3 Q k' 0 b_a b_n b_c (b_n : Int) 0 w
noncomputable def op_number.scr : Scrs := []
def op_number.R (Q : Int → World → Prop) (ρ : Env) (w : World) : Prop := evRes (cx 22) Go.Proofs.Try.f33.results.toList ρ w fun vs => op_number.qv Q (resV vs) w
def op_number.d3 (K : Int → Option Addr → Nat → Nat → Int → Int → Prop) (ρ : Env) : Prop :=
  dI .i64 (ρ 3) fun n => dS (ρ 6) fun t6_a t6_n t6_c => dI .i64 (ρ 7) fun t7 => dI .i64 (ρ 8) fun t8 => K n t6_a t6_n t6_c t7 t8
theorem op_number.d3_elim {K : Int → Option Addr → Nat → Nat → Int → Int → Prop} {ρ : Env} (h0 : op_number.d3 K ρ) : ∃ (n : Int) (t6_a : Option Addr) (t6_n : Nat) (t6_c : Nat) (t7 : Int) (t8 : Int), ρ 3 = .int .i64 n ∧ ρ 6 = .slice t6_a t6_n t6_c ∧ ρ 7 = .int .i64 t7 ∧ ρ 8 = .int .i64 t8 ∧ K n t6_a t6_n t6_c t7 t8 := by
  obtain ⟨n, e3, h1⟩ := dI_elim h0
  obtain ⟨t6_a, t6_n, t6_c, e6, h2⟩ := dS_elim h1
  obtain ⟨t7, e7, h3⟩ := dI_elim h2
  obtain ⟨t8, e8, h4⟩ := dI_elim h3
  exact ⟨n, t6_a, t6_n, t6_c, t7, t8, e3, e6, e7, e8, h4⟩
set_option maxRecDepth 100000 in
theorem op_number.f3 (Q : Int → World → Prop) : ∀ k n t6_a t6_n t6_c t7 t8 w, op_number.b3 Q k n t6_a t6_n t6_c t7 t8 w → ∀ ρ : Env, ρ 3 = .int .i64 n → ρ 6 = .slice t6_a t6_n t6_c → ρ 7 = .int .i64 t7 → ρ 8 = .int .i64 t8 → Fin (cx 22) (todoOf Go.Proofs.Try.f33 3) ρ w (op_number.R Q) := by
  intro k
  induction k with
  | zero => intro n t6_a t6_n t6_c t7 t8 w h; exact h.elim
  | succ k ih =>
    intro n t6_a t6_n t6_c t7 t8 w h ρ e3 e6 e7 e8
    have h : op_number.s3 Q (op_number.b3 Q k) n t6_a t6_n t6_c t7 t8 w := h
    refine Fin.cut (ρ' := put (put (put (put (ρ) (some 3) (.int .i64 n)) (some 6) (.slice t6_a t6_n t6_c)) (some 7) (.int .i64 t7)) (some 8) (.int .i64 t8)) ?_ (by rw [put_id e3, put_id e6, put_id e7, put_id e8])
    refine evT_sound (ok 22) (drawD_sound (ok 22) op_number.scr) 600 (L := [(3, fun ρ w => op_number.d3 (fun n t6_a t6_n t6_c t7 t8 => op_number.b3 Q k n t6_a t6_n t6_c t7 t8 w) ρ)]) (leaf_of (fn := Go.Proofs.Try.f33) [3] (by kernel_rfl) ⟨fun ρ w h => by obtain ⟨n, t6_a, t6_n, t6_c, t7, t8, e3, e6, e7, e8, h⟩ := op_number.d3_elim (ρ := ρ) h; exact ih n t6_a t6_n t6_c t7 t8 w h ρ e3 e6 e7 e8, trivial⟩) (castK h (by kernel_rfl))
set_option maxRecDepth 100000 in
theorem op_number.body (b_a : Option Addr) (b_n : Nat) (b_c : Nat) (w : World) (Q : Int → World → Prop) (h : op_number.sh b_a b_n b_c w Q) : op_number.call b_a b_n b_c w Q := by
  refine call_fn (ok 22) (fn := Go.Proofs.Try.f33) (args := [.slice b_a b_n b_c]) (K := op_number.qv Q) Go.Proofs.Try.func33 (by kernel_rfl) (by kernel_rfl) (by kernel_rfl) ?_
  refine evT_sound (ok 22) (drawD_sound (ok 22) op_number.scr) 600 (L := [(3, fun ρ w => op_number.d3 (fun n t6_a t6_n t6_c t7 t8 => ∃ k', op_number.b3 Q k' n t6_a t6_n t6_c t7 t8 w) ρ)]) (leaf_of (fn := Go.Proofs.Try.f33) [3] (by kernel_rfl) ⟨fun ρ w h => by obtain ⟨n, t6_a, t6_n, t6_c, t7, t8, e3, e6, e7, e8, h⟩ := op_number.d3_elim (ρ := ρ) h; obtain ⟨k', h⟩ := h; exact op_number.f3 Q k' n t6_a t6_n t6_c t7 t8 w h ρ e3 e6 e7 e8, trivial⟩) (castK h (by kernel_rfl))
/-! ### 20 herdsman/op.read -/
def op_read.sh (b_a : Option Addr) (b_n : Nat) (b_c : Nat) (w : World) (Q : Int → Int → Int → Option Addr → Nat → Nat → Int → World → Prop) : Prop :=
  Al T 30 w fun p2 w0_1 =>
  InB 0 b_n <|
  wA b_a fun p =>
  LdI .u8 (p.add (((0 : Int).toNat) * 1)) w0_1.drew fun x11 =>
  SlK b_a b_n b_c 1 (some 1) none fun s14_a s14_n s14_c =>
  op_shaped.call (IntKind.wrap .i64 x11) w0_1.drew fun r17_0_0 r17_0_1 r17_0_2 r17_1 w0_2 =>
  Al T 47 w0_2 fun s0 w0_3 =>
  St (s0.add 0) (.int .i64 r17_0_0) w0_3 fun w0_4 =>
  St (s0.add 1) (.int .i64 r17_0_1) w0_4 fun w0_5 =>
  St (s0.add 2) (.bool r17_0_2) w0_5 fun w0_6 =>
  cond (!r17_1)
  (St (p2.add 0) (.int .i64 0) w0_6 fun w0_7 =>
  St (p2.add 1) (.int .i64 (IntKind.wrap .i64 x11)) w0_7 fun w0_8 =>
  St (p2.add 2) (.int .i64 0) w0_8 fun w0_9 =>
  St (p2.add 3) (.slice none 0 0) w0_9 fun w0_10 =>
  LdI .i64 (p2.add 0) w0_10 fun r2_Kind =>
  LdI .i64 (p2.add 1) w0_10 fun r2_A =>
  LdI .i64 (p2.add 2) w0_10 fun r2_B =>
  LdS (p2.add 3) w0_10 fun r2_Map_a r2_Map_n r2_Map_c =>
  Q r2_Kind r2_A r2_B r2_Map_a r2_Map_n r2_Map_c 1 w0_10)
  (LdB (s0.add 2) w0_6 fun x25 =>
  cond x25
  (cond (decide ((s14_n : Int) < 4))
  (St (p2.add 0) (.int .i64 0) w0_6 fun w0_11 =>
  St (p2.add 1) (.int .i64 0) w0_11 fun w0_12 =>
  St (p2.add 2) (.int .i64 0) w0_12 fun w0_13 =>
  St (p2.add 3) (.slice none 0 0) w0_13 fun w0_14 =>
  LdI .i64 (p2.add 0) w0_14 fun r2_Kind_1 =>
  LdI .i64 (p2.add 1) w0_14 fun r2_A_1 =>
  LdI .i64 (p2.add 2) w0_14 fun r2_B_1 =>
  LdS (p2.add 3) w0_14 fun r2_Map_a_1 r2_Map_n_1 r2_Map_c_1 =>
  Q r2_Kind_1 r2_A_1 r2_B_1 r2_Map_a_1 r2_Map_n_1 r2_Map_c_1 0 w0_14)
  (SlK s14_a s14_n s14_c 1 none (some 4) fun s31_a s31_n s31_c =>
  op_number.call s31_a s31_n s31_c w0_6 fun r32 w0_15 =>
  cond (decide ((IntKind.wrap .i64 ((s14_n : Int) - 4)) < r32))
  (St (p2.add 0) (.int .i64 0) w0_15 fun w0_16 =>
  St (p2.add 1) (.int .i64 0) w0_16 fun w0_17 =>
  St (p2.add 2) (.int .i64 0) w0_17 fun w0_18 =>
  St (p2.add 3) (.slice none 0 0) w0_18 fun w0_19 =>
  LdI .i64 (p2.add 0) w0_19 fun r2_Kind_2 =>
  LdI .i64 (p2.add 1) w0_19 fun r2_A_2 =>
  LdI .i64 (p2.add 2) w0_19 fun r2_B_2 =>
  LdS (p2.add 3) w0_19 fun r2_Map_a_2 r2_Map_n_2 r2_Map_c_2 =>
  Q r2_Kind_2 r2_A_2 r2_B_2 r2_Map_a_2 r2_Map_n_2 r2_Map_c_2 0 w0_19)
  (SlK s14_a s14_n s14_c 1 (some 4) (some (IntKind.wrap .i64 (4 + r32))) fun s43_a s43_n s43_c =>
  App P #[22, 22] 22 (.slice none 0 0) (.slice s43_a s43_n s43_c) w0_15 fun r44_a r44_n r44_c w0_20 =>
  St (p2.add 0) (.int .i64 (IntKind.wrap .i64 x11)) w0_20 fun w0_21 =>
  St (p2.add 1) (.int .i64 0) w0_21 fun w0_22 =>
  St (p2.add 2) (.int .i64 0) w0_22 fun w0_23 =>
  St (p2.add 3) (.slice r44_a r44_n r44_c) w0_23 fun w0_24 =>
  LdI .i64 (p2.add 0) w0_24 fun r2_Kind_3 =>
  LdI .i64 (p2.add 1) w0_24 fun r2_A_3 =>
  LdI .i64 (p2.add 2) w0_24 fun r2_B_3 =>
  LdS (p2.add 3) w0_24 fun r2_Map_a_3 r2_Map_n_3 r2_Map_c_3 =>
  Q r2_Kind_3 r2_A_3 r2_B_3 r2_Map_a_3 r2_Map_n_3 r2_Map_c_3 (IntKind.wrap .i64 (5 + r32)) w0_24)))
  (LdI .i64 s0 w0_6 fun x51 =>
  LdI .i64 (s0.add 1) w0_6 fun x53 =>
  cond (decide ((s14_n : Int) < (IntKind.wrap .i64 (x51 + x53))))
  (St (p2.add 0) (.int .i64 0) w0_6 fun w0_25 =>
  St (p2.add 1) (.int .i64 0) w0_25 fun w0_26 =>
  St (p2.add 2) (.int .i64 0) w0_26 fun w0_27 =>
  St (p2.add 3) (.slice none 0 0) w0_27 fun w0_28 =>
  LdI .i64 (p2.add 0) w0_28 fun r2_Kind_4 =>
  LdI .i64 (p2.add 1) w0_28 fun r2_A_4 =>
  LdI .i64 (p2.add 2) w0_28 fun r2_B_4 =>
  LdS (p2.add 3) w0_28 fun r2_Map_a_4 r2_Map_n_4 r2_Map_c_4 =>
  Q r2_Kind_4 r2_A_4 r2_B_4 r2_Map_a_4 r2_Map_n_4 r2_Map_c_4 0 w0_28)
  (LdI .i64 s0 w0_6.drew fun x60 =>
  SlK s14_a s14_n s14_c 1 none (some x60) fun s61_a s61_n s61_c =>
  LdI .i64 s0 w0_6.drew fun x65 =>
  LdI .i64 s0 w0_6.drew fun x67 =>
  LdI .i64 (s0.add 1) w0_6.drew fun x69 =>
  SlK s14_a s14_n s14_c 1 (some x65) (some (IntKind.wrap .i64 (x67 + x69))) fun s71_a s71_n s71_c =>
  LdI .i64 s0 w0_6.drew fun x75 =>
  LdI .i64 (s0.add 1) w0_6.drew fun x78 =>
  op_number.call s61_a s61_n s61_c w0_6.drew fun r62 w0_29 =>
  w0_29.cell? (s0.add 1) = some (.int .i64 x78) ∧
  w0_29.cell? s0 = some (.int .i64 x75) ∧
  w0_29.cell? (s0.add 1) = some (.int .i64 x69) ∧
  w0_29.cell? s0 = some (.int .i64 x67) ∧
  w0_29.cell? s0 = some (.int .i64 x65) ∧
  op_number.call s71_a s71_n s71_c w0_29 fun r72 w0_30 =>
  w0_30.cell? (s0.add 1) = some (.int .i64 x78) ∧
  w0_30.cell? s0 = some (.int .i64 x75) ∧
  St (p2.add 0) (.int .i64 (IntKind.wrap .i64 x11)) w0_30 fun w0_31 =>
  St (p2.add 1) (.int .i64 r62) w0_31 fun w0_32 =>
  St (p2.add 2) (.int .i64 r72) w0_32 fun w0_33 =>
  St (p2.add 3) (.slice none 0 0) w0_33 fun w0_34 =>
  w0_34.cell? (s0.add 1) = some (.int .i64 x78) ∧
  w0_34.cell? s0 = some (.int .i64 x75) ∧
  LdI .i64 (p2.add 0) w0_34 fun r2_Kind_5 =>
  LdI .i64 (p2.add 1) w0_34 fun r2_A_5 =>
  LdI .i64 (p2.add 2) w0_34 fun r2_B_5 =>
  LdS (p2.add 3) w0_34 fun r2_Map_a_5 r2_Map_n_5 r2_Map_c_5 =>
  Q r2_Kind_5 r2_A_5 r2_B_5 r2_Map_a_5 r2_Map_n_5 r2_Map_c_5 (IntKind.wrap .i64 ((IntKind.wrap .i64 (1 + x75)) + x78)) w0_34)))
noncomputable def op_read.scr : Scrs := [(1, .op 0 (.op 1 (.op 2 (.op 3 (.op 4 (.op 5 (.op 6 (.op 7 .done)))))))), (14, .op 0 (.op 1 (.op 2 (.op 3 (.op 4 (.op 6 (.op 7 (.op 8 (.op 9 (.op 10 (.op 11 (.op 12 (.op 13 (.op 14 (.op 17 (.op 18 (.op 19 (.op 20 (.op 21 (.op 22 (.op 5 (.op 15 (.op 16 (.op 23 (.op 24 .done)))))))))))))))))))))))))]
def op_read.R (Q : Int → Int → Int → Option Addr → Nat → Nat → Int → World → Prop) (ρ : Env) (w : World) : Prop := evRes (cx 80) Go.Proofs.Try.f20.results.toList ρ w fun vs => op_read.qv Q (resV vs) w
set_option maxRecDepth 100000 in
theorem op_read.body (b_a : Option Addr) (b_n : Nat) (b_c : Nat) (w : World) (Q : Int → Int → Int → Option Addr → Nat → Nat → Int → World → Prop) (h : op_read.sh b_a b_n b_c w Q) : op_read.call b_a b_n b_c w Q := by
  refine call_fn (ok 80) (fn := Go.Proofs.Try.f20) (args := [.slice b_a b_n b_c]) (K := op_read.qv Q) Go.Proofs.Try.func20 (by kernel_rfl) (by kernel_rfl) (by kernel_rfl) ?_
  refine evT_sound (ok 80) (drawD_sound (ok 80) op_read.scr) 600 (L := []) (leaf_of (fn := Go.Proofs.Try.f20) [] (by kernel_rfl) trivial) (castK h (by kernel_rfl))
/-! ### 10 herdsman/op.Decode -/
def op_Decode.b6 (P2 : Option Addr → Nat → Nat → Option Addr → Nat → Nat → World → Prop) (Q : Option Addr → Nat → Nat → World → Prop) (b_a : Option Addr) (b_n : Nat) (b_c : Nat) (out_a : Option Addr) (out_n : Nat) (out_c : Nat) (o : Addr) (used : Int) (w : World) : Prop :=
  LdI .i64 (o.add 0) w fun x22_Kind =>
  LdI .i64 (o.add 1) w fun x22_A =>
  LdI .i64 (o.add 2) w fun x22_B =>
  LdS (o.add 3) w fun x22_Map_a x22_Map_n x22_Map_c =>
  Bx [.int .i64 x22_Kind, .int .i64 x22_A, .int .i64 x22_B, .slice x22_Map_a x22_Map_n x22_Map_c] 30 w fun p23_s w0_1 =>
  App P #[25, 25] 25 (.slice out_a out_n out_c) (.slice (some p23_s) 1 1) w0_1 fun r24_a r24_n r24_c w0_2 =>
  SlK b_a b_n b_c 1 (some used) none fun s27_a s27_n s27_c =>
  P2 s27_a s27_n s27_c r24_a r24_n r24_c w0_2
def op_Decode.s2 (Q : Option Addr → Nat → Nat → World → Prop) (R2 : Option Addr → Nat → Nat → Option Addr → Nat → Nat → World → Prop) (b_a : Option Addr) (b_n : Nat) (b_c : Nat) (out_a : Option Addr) (out_n : Nat) (out_c : Nat) (w : World) : Prop :=
  cond (decide ((b_n : Int) > 0))
  (op_read.call b_a b_n b_c w fun r11_0_0 r11_0_1 r11_0_2 r11_0_3_a r11_0_3_n r11_0_3_c r11_1 w0_1 =>
  Al T 30 w0_1 fun o w0_2 =>
  St (o.add 0) (.int .i64 r11_0_0) w0_2 fun w0_3 =>
  St (o.add 1) (.int .i64 r11_0_1) w0_3 fun w0_4 =>
  St (o.add 2) (.int .i64 r11_0_2) w0_4 fun w0_5 =>
  St (o.add 3) (.slice r11_0_3_a r11_0_3_n r11_0_3_c) w0_5 fun w0_6 =>
  cond (r11_1 == 0)
  (App P #[22, 22] 22 (.slice none 0 0) (.slice b_a b_n b_c) w0_6 fun r17_a r17_n r17_c w0_7 =>
  St (o.add 0) (.int .i64 0) w0_7 fun w0_8 =>
  St (o.add 1) (.int .i64 (-1)) w0_8 fun w0_9 =>
  St (o.add 2) (.int .i64 0) w0_9 fun w0_10 =>
  St (o.add 3) (.slice r17_a r17_n r17_c) w0_10 fun w0_11 =>
  op_Decode.b6 R2 Q b_a b_n b_c out_a out_n out_c o (b_n : Int) w0_11)
  (op_Decode.b6 R2 Q b_a b_n b_c out_a out_n out_c o r11_1 w0_6))
  (Q out_a out_n out_c w)
def op_Decode.b2 (Q : Option Addr → Nat → Nat → World → Prop) : Nat → Option Addr → Nat → Nat → Option Addr → Nat → Nat → World → Prop
  | 0, _, _, _, _, _, _, _ => False
  | k + 1, b_a, b_n, b_c, out_a, out_n, out_c, w => op_Decode.s2 Q (op_Decode.b2 Q k) b_a b_n b_c out_a out_n out_c w
def op_Decode.sh (b_a : Option Addr) (b_n : Nat) (b_c : Nat) (w : World) (Q : Option Addr → Nat → Nat → World → Prop) : Prop :=
  ∃ k', op_Decode.b2 Q k' b_a b_n b_c none 0 0 w
noncomputable def op_Decode.scr : Scrs := []
def op_Decode.R (Q : Option Addr → Nat → Nat → World → Prop) (ρ : Env) (w : World) : Prop := evRes (cx 29) Go.Proofs.Try.f10.results.toList ρ w fun vs => op_Decode.qv Q (resV vs) w
def op_Decode.d2 (K : Option Addr → Nat → Nat → Option Addr → Nat → Nat → Prop) (ρ : Env) : Prop :=
  dS (ρ 0) fun b_a b_n b_c => dS (ρ 3) fun out_a out_n out_c => K b_a b_n b_c out_a out_n out_c
theorem op_Decode.d2_elim {K : Option Addr → Nat → Nat → Option Addr → Nat → Nat → Prop} {ρ : Env} (h0 : op_Decode.d2 K ρ) : ∃ (b_a : Option Addr) (b_n : Nat) (b_c : Nat) (out_a : Option Addr) (out_n : Nat) (out_c : Nat), ρ 0 = .slice b_a b_n b_c ∧ ρ 3 = .slice out_a out_n out_c ∧ K b_a b_n b_c out_a out_n out_c := by
  obtain ⟨b_a, b_n, b_c, e0, h1⟩ := dS_elim h0
  obtain ⟨out_a, out_n, out_c, e3, h2⟩ := dS_elim h1
  exact ⟨b_a, b_n, b_c, out_a, out_n, out_c, e0, e3, h2⟩
def op_Decode.d6 (K : Option Addr → Nat → Nat → Option Addr → Nat → Nat → Addr → Int → Prop) (ρ : Env) : Prop :=
  dS (ρ 0) fun b_a b_n b_c => dS (ρ 3) fun out_a out_n out_c => dP (ρ 4) fun o_p => wA o_p fun o => dI .i64 (ρ 5) fun used => K b_a b_n b_c out_a out_n out_c o used
theorem op_Decode.d6_elim {K : Option Addr → Nat → Nat → Option Addr → Nat → Nat → Addr → Int → Prop} {ρ : Env} (h0 : op_Decode.d6 K ρ) : ∃ (b_a : Option Addr) (b_n : Nat) (b_c : Nat) (out_a : Option Addr) (out_n : Nat) (out_c : Nat) (o : Addr) (used : Int), ρ 0 = .slice b_a b_n b_c ∧ ρ 3 = .slice out_a out_n out_c ∧ ρ 4 = .pointer (some o) ∧ ρ 5 = .int .i64 used ∧ K b_a b_n b_c out_a out_n out_c o used := by
  obtain ⟨b_a, b_n, b_c, e0, h1⟩ := dS_elim h0
  obtain ⟨out_a, out_n, out_c, e3, h2⟩ := dS_elim h1
  obtain ⟨o_p, e4, h3⟩ := dP_elim h2
  obtain ⟨o, rfl, h4⟩ := wA_elim h3
  obtain ⟨used, e5, h5⟩ := dI_elim h4
  exact ⟨b_a, b_n, b_c, out_a, out_n, out_c, o, used, e0, e3, e4, e5, h5⟩
set_option maxRecDepth 100000 in
theorem op_Decode.f6 (P2 : Option Addr → Nat → Nat → Option Addr → Nat → Nat → World → Prop) (Q : Option Addr → Nat → Nat → World → Prop) (HP2 : ∀ b_a b_n b_c out_a out_n out_c w, P2 b_a b_n b_c out_a out_n out_c w → ∀ ρ : Env, ρ 0 = .slice b_a b_n b_c → ρ 3 = .slice out_a out_n out_c → Fin (cx 29) (todoOf Go.Proofs.Try.f10 2) ρ w (op_Decode.R Q)) : ∀ b_a b_n b_c out_a out_n out_c o used w, op_Decode.b6 P2 Q b_a b_n b_c out_a out_n out_c o used w → ∀ ρ : Env, ρ 0 = .slice b_a b_n b_c → ρ 3 = .slice out_a out_n out_c → ρ 4 = .pointer (some o) → ρ 5 = .int .i64 used → Fin (cx 29) (todoOf Go.Proofs.Try.f10 6) ρ w (op_Decode.R Q) := by
  intro b_a b_n b_c out_a out_n out_c o used w h ρ e0 e3 e4 e5
  refine Fin.cut (ρ' := put (put (put (put (ρ) (some 0) (.slice b_a b_n b_c)) (some 3) (.slice out_a out_n out_c)) (some 4) (.pointer (some o))) (some 5) (.int .i64 used)) ?_ (by rw [put_id e0, put_id e3, put_id e4, put_id e5])
  refine evT_sound (ok 29) (drawD_sound (ok 29) op_Decode.scr) 600 (L := [(2, fun ρ w => op_Decode.d2 (fun b_a b_n b_c out_a out_n out_c => P2 b_a b_n b_c out_a out_n out_c w) ρ)]) (leaf_of (fn := Go.Proofs.Try.f10) [2] (by kernel_rfl) ⟨fun ρ w h => by obtain ⟨b_a, b_n, b_c, out_a, out_n, out_c, e0, e3, h⟩ := op_Decode.d2_elim (ρ := ρ) h; exact HP2 b_a b_n b_c out_a out_n out_c w h ρ e0 e3, trivial⟩) (castK h (by kernel_rfl))
set_option maxRecDepth 100000 in
theorem op_Decode.f2 (Q : Option Addr → Nat → Nat → World → Prop) : ∀ k b_a b_n b_c out_a out_n out_c w, op_Decode.b2 Q k b_a b_n b_c out_a out_n out_c w → ∀ ρ : Env, ρ 0 = .slice b_a b_n b_c → ρ 3 = .slice out_a out_n out_c → Fin (cx 29) (todoOf Go.Proofs.Try.f10 2) ρ w (op_Decode.R Q) := by
  intro k
  induction k with
  | zero => intro b_a b_n b_c out_a out_n out_c w h; exact h.elim
  | succ k ih =>
    intro b_a b_n b_c out_a out_n out_c w h ρ e0 e3
    have h : op_Decode.s2 Q (op_Decode.b2 Q k) b_a b_n b_c out_a out_n out_c w := h
    refine Fin.cut (ρ' := put (put (ρ) (some 0) (.slice b_a b_n b_c)) (some 3) (.slice out_a out_n out_c)) ?_ (by rw [put_id e0, put_id e3])
    refine evT_sound (ok 29) (drawD_sound (ok 29) op_Decode.scr) 600 (L := [(6, fun ρ w => op_Decode.d6 (fun b_a b_n b_c out_a out_n out_c o used => op_Decode.b6 (op_Decode.b2 Q k) Q b_a b_n b_c out_a out_n out_c o used w) ρ)]) (leaf_of (fn := Go.Proofs.Try.f10) [6, 6] (by kernel_rfl) ⟨fun ρ w h => by obtain ⟨b_a, b_n, b_c, out_a, out_n, out_c, o, used, e0, e3, e4, e5, h⟩ := op_Decode.d6_elim (ρ := ρ) h; exact op_Decode.f6 (op_Decode.b2 Q k) Q ih b_a b_n b_c out_a out_n out_c o used w h ρ e0 e3 e4 e5, trivial⟩) (castK h (by kernel_rfl))
set_option maxRecDepth 100000 in
theorem op_Decode.body (b_a : Option Addr) (b_n : Nat) (b_c : Nat) (w : World) (Q : Option Addr → Nat → Nat → World → Prop) (h : op_Decode.sh b_a b_n b_c w Q) : op_Decode.call b_a b_n b_c w Q := by
  refine call_fn (ok 29) (fn := Go.Proofs.Try.f10) (args := [.slice b_a b_n b_c]) (K := op_Decode.qv Q) Go.Proofs.Try.func10 (by kernel_rfl) (by kernel_rfl) (by kernel_rfl) ?_
  refine evT_sound (ok 29) (drawD_sound (ok 29) op_Decode.scr) 600 (L := [(2, fun ρ w => op_Decode.d2 (fun b_a b_n b_c out_a out_n out_c => ∃ k', op_Decode.b2 Q k' b_a b_n b_c out_a out_n out_c w) ρ)]) (leaf_of (fn := Go.Proofs.Try.f10) [2] (by kernel_rfl) ⟨fun ρ w h => by obtain ⟨b_a, b_n, b_c, out_a, out_n, out_c, e0, e3, h⟩ := op_Decode.d2_elim (ρ := ρ) h; obtain ⟨k', h⟩ := h; exact op_Decode.f2 Q k' b_a b_n b_c out_a out_n out_c w h ρ e0 e3, trivial⟩) (castK h (by kernel_rfl))
/-! ### 12 herdsman/herdsmanref1.Bytes -/
def herdsmanref1_Bytes.sh (a_a : Option Addr) (a_n : Nat) (a_c : Nat) (b_a : Option Addr) (b_n : Nat) (b_c : Nat) (w : World) (Q : Bool → World → Prop) : Prop :=
  RunK P (convert 22 9 (.slice a_a a_n a_c)) w fun v w0_1 =>
  dStr v fun x6 =>
  RunK P (convert 22 9 (.slice b_a b_n b_c)) w0_1 fun v_1 w0_2 =>
  dStr v_1 fun x8 =>
  Q (x6.toList == x8.toList) w0_2
noncomputable def herdsmanref1_Bytes.scr : Scrs := []
def herdsmanref1_Bytes.R (Q : Bool → World → Prop) (ρ : Env) (w : World) : Prop := evRes (cx 10) Go.Proofs.Try.f12.results.toList ρ w fun vs => herdsmanref1_Bytes.qv Q (resV vs) w
set_option maxRecDepth 100000 in
theorem herdsmanref1_Bytes.body (a_a : Option Addr) (a_n : Nat) (a_c : Nat) (b_a : Option Addr) (b_n : Nat) (b_c : Nat) (w : World) (Q : Bool → World → Prop) (h : herdsmanref1_Bytes.sh a_a a_n a_c b_a b_n b_c w Q) : herdsmanref1_Bytes.call a_a a_n a_c b_a b_n b_c w Q := by
  refine call_fn (ok 10) (fn := Go.Proofs.Try.f12) (args := [.slice a_a a_n a_c, .slice b_a b_n b_c]) (K := herdsmanref1_Bytes.qv Q) Go.Proofs.Try.func12 (by kernel_rfl) (by kernel_rfl) (by kernel_rfl) ?_
  refine evT_sound (ok 10) (drawD_sound (ok 10) herdsmanref1_Bytes.scr) 600 (L := []) (leaf_of (fn := Go.Proofs.Try.f12) [] (by kernel_rfl) trivial) (castK h (by kernel_rfl))
/-! ### 8 herdsman/herdsmanlaw26.told -/
def herdsmanlaw26_told.sh (w : World) (Q : Bool → World → Prop) : Prop :=
  Bx [.int .u8 7, .int .u8 9, .int .u8 6, .int .u8 1] 5 w fun p2_s w0_1 =>
  op_Decode.call (some p2_s) 4 4 w0_1 fun r3_a r3_n r3_c w0_2 =>
  cond ((r3_n : Int) == 3)
  (InB 0 r3_n <|
  wA r3_a fun p =>
  LdI .i64 (p.add (((0 : Int).toNat) * 4)) w0_2 fun x11 =>
  cond (x11 == 7)
  (InB 1 r3_n <|
  wA r3_a fun p_1 =>
  LdI .i64 (p_1.add (((1 : Int).toNat) * 4)) w0_2 fun x18 =>
  cond (x18 == 0)
  (InB 1 r3_n <|
  wA r3_a fun p_2 =>
  LdI .i64 ((p_2.add (((1 : Int).toNat) * 4)).add 1) w0_2 fun x25 =>
  cond (x25 == 9)
  (InB 2 r3_n <|
  wA r3_a fun p_3 =>
  LdI .i64 ((p_3.add (((2 : Int).toNat) * 4)).add 1) w0_2 fun x32 =>
  cond (x32 == (-1))
  (InB 2 r3_n <|
  wA r3_a fun p_4 =>
  LdS ((p_4.add (((2 : Int).toNat) * 4)).add 3) w0_2 fun x39_a x39_n x39_c =>
  Bx [.int .u8 6, .int .u8 1] 5 w0_2 fun p40_s w0_3 =>
  herdsmanref1_Bytes.call x39_a x39_n x39_c (some p40_s) 2 2 w0_3 fun r41 w0_4 =>
  Q r41 w0_4)
  (Q false w0_2))
  (Q false w0_2))
  (Q false w0_2))
  (Q false w0_2))
  (Q false w0_2)
noncomputable def herdsmanlaw26_told.scr : Scrs := []
def herdsmanlaw26_told.R (Q : Bool → World → Prop) (ρ : Env) (w : World) : Prop := evRes (cx 43) Go.Proofs.Try.f8.results.toList ρ w fun vs => herdsmanlaw26_told.qv Q (resV vs) w
set_option maxRecDepth 100000 in
theorem herdsmanlaw26_told.body (w : World) (Q : Bool → World → Prop) (h : herdsmanlaw26_told.sh w Q) : herdsmanlaw26_told.call w Q := by
  refine call_fn (ok 43) (fn := Go.Proofs.Try.f8) (args := []) (K := herdsmanlaw26_told.qv Q) Go.Proofs.Try.func8 (by kernel_rfl) (by kernel_rfl) (by kernel_rfl) ?_
  refine evT_sound (ok 43) (drawD_sound (ok 43) herdsmanlaw26_told.scr) 600 (L := []) (leaf_of (fn := Go.Proofs.Try.f8) [] (by kernel_rfl) trivial) (castK h (by kernel_rfl))
/-! ### 19 herdsman/herdsmanref26.Same -/
def herdsmanref26_Same.sh (a_Kind : Int) (a_A : Int) (a_B : Int) (a_Map_a : Option Addr) (a_Map_n : Nat) (a_Map_c : Nat) (b_Kind : Int) (b_A : Int) (b_B : Int) (b_Map_a : Option Addr) (b_Map_n : Nat) (b_Map_c : Nat) (w : World) (Q : Bool → World → Prop) : Prop :=
  Bx [.int .i64 a_Kind, .int .i64 a_A, .int .i64 a_B, .slice a_Map_a a_Map_n a_Map_c] 30 w fun a_b w0_1 =>
  Bx [.int .i64 b_Kind, .int .i64 b_A, .int .i64 b_B, .slice b_Map_a b_Map_n b_Map_c] 30 w0_1 fun b_b w0_2 =>
  LdI .i64 a_b w0_2 fun x6 =>
  LdI .i64 b_b w0_2 fun x8 =>
  cond (x6 == x8)
  (LdI .i64 (a_b.add 1) w0_2 fun x12 =>
  LdI .i64 (b_b.add 1) w0_2 fun x14 =>
  cond (x12 == x14)
  (LdI .i64 (a_b.add 2) w0_2 fun x19 =>
  LdI .i64 (b_b.add 2) w0_2 fun x21 =>
  cond (x19 == x21)
  (LdS (a_b.add 3) w0_2 fun x26_a x26_n x26_c =>
  LdS (b_b.add 3) w0_2 fun x28_a x28_n x28_c =>
  herdsmanref1_Bytes.call x26_a x26_n x26_c x28_a x28_n x28_c w0_2 fun r29 w0_3 =>
  Q r29 w0_3)
  (Q false w0_2))
  (Q false w0_2))
  (Q false w0_2)
noncomputable def herdsmanref26_Same.scr : Scrs := []
def herdsmanref26_Same.R (Q : Bool → World → Prop) (ρ : Env) (w : World) : Prop := evRes (cx 31) Go.Proofs.Try.f19.results.toList ρ w fun vs => herdsmanref26_Same.qv Q (resV vs) w
set_option maxRecDepth 100000 in
theorem herdsmanref26_Same.body (a_Kind : Int) (a_A : Int) (a_B : Int) (a_Map_a : Option Addr) (a_Map_n : Nat) (a_Map_c : Nat) (b_Kind : Int) (b_A : Int) (b_B : Int) (b_Map_a : Option Addr) (b_Map_n : Nat) (b_Map_c : Nat) (w : World) (Q : Bool → World → Prop) (h : herdsmanref26_Same.sh a_Kind a_A a_B a_Map_a a_Map_n a_Map_c b_Kind b_A b_B b_Map_a b_Map_n b_Map_c w Q) : herdsmanref26_Same.call a_Kind a_A a_B a_Map_a a_Map_n a_Map_c b_Kind b_A b_B b_Map_a b_Map_n b_Map_c w Q := by
  refine call_fn (ok 31) (fn := Go.Proofs.Try.f19) (args := [.agg #[.int .i64 a_Kind, .int .i64 a_A, .int .i64 a_B, .slice a_Map_a a_Map_n a_Map_c], .agg #[.int .i64 b_Kind, .int .i64 b_A, .int .i64 b_B, .slice b_Map_a b_Map_n b_Map_c]]) (K := herdsmanref26_Same.qv Q) Go.Proofs.Try.func19 (by kernel_rfl) (by kernel_rfl) (by kernel_rfl) ?_
  refine evT_sound (ok 31) (drawD_sound (ok 31) herdsmanref26_Same.scr) 600 (L := []) (leaf_of (fn := Go.Proofs.Try.f19) [] (by kernel_rfl) trivial) (castK h (by kernel_rfl))
/-! ### 9 herdsman/herdsmanref26.SameAll -/
def herdsmanref26_SameAll.s4 (Q : Bool → World → Prop) (R4 : Option Addr → Nat → Nat → Option Addr → Nat → Nat → Int → World → Prop) (a_a : Option Addr) (a_n : Nat) (a_c : Nat) (b_a : Option Addr) (b_n : Nat) (b_c : Nat) (i : Int) (w : World) : Prop :=
  cond (decide (i < (a_n : Int)))
  (InB i a_n <|
  wA a_a fun p =>
  LdI .i64 ((p.add (i.toNat * 4)).add 0) w.drew fun x20_Kind =>
  LdI .i64 ((p.add (i.toNat * 4)).add 1) w.drew fun x20_A =>
  LdI .i64 ((p.add (i.toNat * 4)).add 2) w.drew fun x20_B =>
  LdS ((p.add (i.toNat * 4)).add 3) w.drew fun x20_Map_a x20_Map_n x20_Map_c =>
  InB i b_n <|
  wA b_a fun p_1 =>
  LdI .i64 ((p_1.add (i.toNat * 4)).add 0) w.drew fun x24_Kind =>
  LdI .i64 ((p_1.add (i.toNat * 4)).add 1) w.drew fun x24_A =>
  LdI .i64 ((p_1.add (i.toNat * 4)).add 2) w.drew fun x24_B =>
  LdS ((p_1.add (i.toNat * 4)).add 3) w.drew fun x24_Map_a x24_Map_n x24_Map_c =>
  herdsmanref26_Same.call x20_Kind x20_A x20_B x20_Map_a x20_Map_n x20_Map_c x24_Kind x24_A x24_B x24_Map_a x24_Map_n x24_Map_c w.drew fun r25 w0_1 =>
  cond (!r25)
  (Q false w0_1)
  (R4 a_a a_n a_c b_a b_n b_c (IntKind.wrap .i64 (i + 1)) w0_1))
  (Q true w)
def herdsmanref26_SameAll.b4 (Q : Bool → World → Prop) : Nat → Option Addr → Nat → Nat → Option Addr → Nat → Nat → Int → World → Prop
  | 0, _, _, _, _, _, _, _, _ => False
  | k + 1, a_a, a_n, a_c, b_a, b_n, b_c, i, w => herdsmanref26_SameAll.s4 Q (herdsmanref26_SameAll.b4 Q k) a_a a_n a_c b_a b_n b_c i w
def herdsmanref26_SameAll.sh (a_a : Option Addr) (a_n : Nat) (a_c : Nat) (b_a : Option Addr) (b_n : Nat) (b_c : Nat) (w : World) (Q : Bool → World → Prop) : Prop :=
  cond ((a_n : Int) != (b_n : Int))
  (Q false w)
  (∃ k', herdsmanref26_SameAll.b4 Q k' a_a a_n a_c b_a b_n b_c 0 w)
noncomputable def herdsmanref26_SameAll.scr : Scrs := [(6, .op 0 (.op 1 (.op 2 (.op 3 (.op 4 (.op 5 (.op 6 (.op 7 (.op 8 (.op 9 .done))))))))))]
def herdsmanref26_SameAll.R (Q : Bool → World → Prop) (ρ : Env) (w : World) : Prop := evRes (cx 27) Go.Proofs.Try.f9.results.toList ρ w fun vs => herdsmanref26_SameAll.qv Q (resV vs) w
def herdsmanref26_SameAll.d4 (K : Option Addr → Nat → Nat → Option Addr → Nat → Nat → Int → Prop) (ρ : Env) : Prop :=
  dS (ρ 0) fun a_a a_n a_c => dS (ρ 1) fun b_a b_n b_c => dI .i64 (ρ 5) fun i => K a_a a_n a_c b_a b_n b_c i
theorem herdsmanref26_SameAll.d4_elim {K : Option Addr → Nat → Nat → Option Addr → Nat → Nat → Int → Prop} {ρ : Env} (h0 : herdsmanref26_SameAll.d4 K ρ) : ∃ (a_a : Option Addr) (a_n : Nat) (a_c : Nat) (b_a : Option Addr) (b_n : Nat) (b_c : Nat) (i : Int), ρ 0 = .slice a_a a_n a_c ∧ ρ 1 = .slice b_a b_n b_c ∧ ρ 5 = .int .i64 i ∧ K a_a a_n a_c b_a b_n b_c i := by
  obtain ⟨a_a, a_n, a_c, e0, h1⟩ := dS_elim h0
  obtain ⟨b_a, b_n, b_c, e1, h2⟩ := dS_elim h1
  obtain ⟨i, e5, h3⟩ := dI_elim h2
  exact ⟨a_a, a_n, a_c, b_a, b_n, b_c, i, e0, e1, e5, h3⟩
set_option maxRecDepth 100000 in
theorem herdsmanref26_SameAll.f4 (Q : Bool → World → Prop) : ∀ k a_a a_n a_c b_a b_n b_c i w, herdsmanref26_SameAll.b4 Q k a_a a_n a_c b_a b_n b_c i w → ∀ ρ : Env, ρ 0 = .slice a_a a_n a_c → ρ 1 = .slice b_a b_n b_c → ρ 5 = .int .i64 i → Fin (cx 27) (todoOf Go.Proofs.Try.f9 4) ρ w (herdsmanref26_SameAll.R Q) := by
  intro k
  induction k with
  | zero => intro a_a a_n a_c b_a b_n b_c i w h; exact h.elim
  | succ k ih =>
    intro a_a a_n a_c b_a b_n b_c i w h ρ e0 e1 e5
    have h : herdsmanref26_SameAll.s4 Q (herdsmanref26_SameAll.b4 Q k) a_a a_n a_c b_a b_n b_c i w := h
    refine Fin.cut (ρ' := put (put (put (ρ) (some 0) (.slice a_a a_n a_c)) (some 1) (.slice b_a b_n b_c)) (some 5) (.int .i64 i)) ?_ (by rw [put_id e0, put_id e1, put_id e5])
    refine evT_sound (ok 27) (drawD_sound (ok 27) herdsmanref26_SameAll.scr) 600 (L := [(4, fun ρ w => herdsmanref26_SameAll.d4 (fun a_a a_n a_c b_a b_n b_c i => herdsmanref26_SameAll.b4 Q k a_a a_n a_c b_a b_n b_c i w) ρ)]) (leaf_of (fn := Go.Proofs.Try.f9) [4] (by kernel_rfl) ⟨fun ρ w h => by obtain ⟨a_a, a_n, a_c, b_a, b_n, b_c, i, e0, e1, e5, h⟩ := herdsmanref26_SameAll.d4_elim (ρ := ρ) h; exact ih a_a a_n a_c b_a b_n b_c i w h ρ e0 e1 e5, trivial⟩) (castK h (by kernel_rfl))
set_option maxRecDepth 100000 in
theorem herdsmanref26_SameAll.body (a_a : Option Addr) (a_n : Nat) (a_c : Nat) (b_a : Option Addr) (b_n : Nat) (b_c : Nat) (w : World) (Q : Bool → World → Prop) (h : herdsmanref26_SameAll.sh a_a a_n a_c b_a b_n b_c w Q) : herdsmanref26_SameAll.call a_a a_n a_c b_a b_n b_c w Q := by
  refine call_fn (ok 27) (fn := Go.Proofs.Try.f9) (args := [.slice a_a a_n a_c, .slice b_a b_n b_c]) (K := herdsmanref26_SameAll.qv Q) Go.Proofs.Try.func9 (by kernel_rfl) (by kernel_rfl) (by kernel_rfl) ?_
  refine evT_sound (ok 27) (drawD_sound (ok 27) herdsmanref26_SameAll.scr) 600 (L := [(4, fun ρ w => herdsmanref26_SameAll.d4 (fun a_a a_n a_c b_a b_n b_c i => ∃ k', herdsmanref26_SameAll.b4 Q k' a_a a_n a_c b_a b_n b_c i w) ρ)]) (leaf_of (fn := Go.Proofs.Try.f9) [4] (by kernel_rfl) ⟨fun ρ w h => by obtain ⟨a_a, a_n, a_c, b_a, b_n, b_c, i, e0, e1, e5, h⟩ := herdsmanref26_SameAll.d4_elim (ρ := ρ) h; obtain ⟨k', h⟩ := h; exact herdsmanref26_SameAll.f4 Q k' a_a a_n a_c b_a b_n b_c i w h ρ e0 e1 e5, trivial⟩) (castK h (by kernel_rfl))
/-! ### 22 herdsman/herdsmanref26.number -/
def herdsmanref26_number.sh (b_a : Option Addr) (b_n : Nat) (b_c : Nat) (w : World) (Q : Int → World → Prop) : Prop :=
  InB 0 b_n <|
  wA b_a fun p =>
  LdI .u8 (p.add (((0 : Int).toNat) * 1)) w.drew fun x5 =>
  InB 1 b_n <|
  wA b_a fun p_1 =>
  LdI .u8 (p_1.add (((1 : Int).toNat) * 1)) w.drew fun x9 =>
  NNg 8 <|
  InB 2 b_n <|
  wA b_a fun p_2 =>
  LdI .u8 (p_2.add (((2 : Int).toNat) * 1)) w.drew fun x15 =>
  NNg 16 <|
  InB 3 b_n <|
  wA b_a fun p_3 =>
  LdI .u8 (p_3.add (((3 : Int).toNat) * 1)) w.drew fun x21 =>
  NNg 24 <|
  Q (IntKind.wrap .i64 ((IntKind.wrap .i64 ((IntKind.wrap .i64 ((IntKind.wrap .i64 x5) + (ishl .i64 (IntKind.wrap .i64 x9) 8))) + (ishl .i64 (IntKind.wrap .i64 x15) 16))) + (ishl .i64 (IntKind.wrap .i64 x21) 24))) w.drew
noncomputable def herdsmanref26_number.scr : Scrs := [(1, .op 0 (.op 1 (.op 2 (.op 3 (.op 4 (.op 5 (.op 6 (.op 7 (.op 8 (.op 9 (.op 10 (.op 11 (.op 12 (.op 13 (.op 14 (.op 15 (.op 16 (.op 17 (.op 18 (.op 19 (.op 20 (.op 21 (.op 22 .done)))))))))))))))))))))))]
def herdsmanref26_number.R (Q : Int → World → Prop) (ρ : Env) (w : World) : Prop := evRes (cx 25) Go.Proofs.Try.f22.results.toList ρ w fun vs => herdsmanref26_number.qv Q (resV vs) w
set_option maxRecDepth 100000 in
theorem herdsmanref26_number.body (b_a : Option Addr) (b_n : Nat) (b_c : Nat) (w : World) (Q : Int → World → Prop) (h : herdsmanref26_number.sh b_a b_n b_c w Q) : herdsmanref26_number.call b_a b_n b_c w Q := by
  refine call_fn (ok 25) (fn := Go.Proofs.Try.f22) (args := [.slice b_a b_n b_c]) (K := herdsmanref26_number.qv Q) Go.Proofs.Try.func22 (by kernel_rfl) (by kernel_rfl) (by kernel_rfl) ?_
  refine evT_sound (ok 25) (drawD_sound (ok 25) herdsmanref26_number.scr) 600 (L := []) (leaf_of (fn := Go.Proofs.Try.f22) [] (by kernel_rfl) trivial) (castK h (by kernel_rfl))
/-! ### 26 herdsman/herdsmanref1.In -/
def herdsmanref1_In.sh (n : Int) (lo : Int) (hi : Int) (w : World) (Q : Bool → World → Prop) : Prop :=
  cond (decide (n ≥ lo))
  (Q (decide (n ≤ hi)) w)
  (Q false w)
noncomputable def herdsmanref1_In.scr : Scrs := []
def herdsmanref1_In.R (Q : Bool → World → Prop) (ρ : Env) (w : World) : Prop := evRes (cx 15) Go.Proofs.Try.f26.results.toList ρ w fun vs => herdsmanref1_In.qv Q (resV vs) w
set_option maxRecDepth 100000 in
theorem herdsmanref1_In.body (n : Int) (lo : Int) (hi : Int) (w : World) (Q : Bool → World → Prop) (h : herdsmanref1_In.sh n lo hi w Q) : herdsmanref1_In.call n lo hi w Q := by
  refine call_fn (ok 15) (fn := Go.Proofs.Try.f26) (args := [.int .i64 n, .int .i64 lo, .int .i64 hi]) (K := herdsmanref1_In.qv Q) Go.Proofs.Try.func26 (by kernel_rfl) (by kernel_rfl) (by kernel_rfl) ?_
  refine evT_sound (ok 15) (drawD_sound (ok 15) herdsmanref1_In.scr) 600 (L := []) (leaf_of (fn := Go.Proofs.Try.f26) [] (by kernel_rfl) trivial) (castK h (by kernel_rfl))
/-! ### 34 herdsman/herdsmanref26.asks -/
def herdsmanref26_asks.sh (kind : Int) (w : World) (Q : Int → World → Prop) : Prop :=
  cond (kind == 1)
  (Q 4 w)
  (cond (kind == 5)
  (Q 4 w)
  (cond (kind == 2)
  (Q 5 w)
  (cond (kind == 3)
  (Q 8 w)
  (cond (kind == 4)
  (Q 8 w)
  (cond (kind == 6)
  (Q 8 w)
  (Q 0 w))))))
noncomputable def herdsmanref26_asks.scr : Scrs := []
def herdsmanref26_asks.R (Q : Int → World → Prop) (ρ : Env) (w : World) : Prop := evRes (cx 13) Go.Proofs.Try.f34.results.toList ρ w fun vs => herdsmanref26_asks.qv Q (resV vs) w
set_option maxRecDepth 100000 in
theorem herdsmanref26_asks.body (kind : Int) (w : World) (Q : Int → World → Prop) (h : herdsmanref26_asks.sh kind w Q) : herdsmanref26_asks.call kind w Q := by
  refine call_fn (ok 13) (fn := Go.Proofs.Try.f34) (args := [.int .i64 kind]) (K := herdsmanref26_asks.qv Q) Go.Proofs.Try.func34 (by kernel_rfl) (by kernel_rfl) (by kernel_rfl) ?_
  refine evT_sound (ok 13) (drawD_sound (ok 13) herdsmanref26_asks.scr) 600 (L := []) (leaf_of (fn := Go.Proofs.Try.f34) [] (by kernel_rfl) trivial) (castK h (by kernel_rfl))
/-! ### 21 herdsman/herdsmanref26.long -/
def herdsmanref26_long.b9 (Q : Int → World → Prop) (b_a : Option Addr) (b_n : Nat) (b_c : Nat) (n : Int) (w : World) : Prop :=
  cond (decide ((b_n : Int) < n))
  (Q (-1) w)
  (Q n w)
def herdsmanref26_long.sh (b_a : Option Addr) (b_n : Nat) (b_c : Nat) (w : World) (Q : Int → World → Prop) : Prop :=
  InB 0 b_n <|
  wA b_a fun p =>
  LdI .u8 (p.add (((0 : Int).toNat) * 1)) w fun x7 =>
  herdsmanref1_In.call (IntKind.wrap .i64 x7) 1 8 w fun r10 w0_1 =>
  cond (!r10)
  (Q 0 w0_1)
  (herdsmanref26_asks.call (IntKind.wrap .i64 x7) w0_1 fun r13 w0_2 =>
  cond (decide ((b_n : Int) < (IntKind.wrap .i64 (1 + r13))))
  (Q (-1) w0_2)
  (cond ((IntKind.wrap .i64 x7) == 1)
  (SlK b_a b_n b_c 1 (some 1) none fun s23_a s23_n s23_c =>
  herdsmanref26_number.call s23_a s23_n s23_c w0_2 fun r24 w0_3 =>
  herdsmanref26_long.b9 Q b_a b_n b_c (IntKind.wrap .i64 ((IntKind.wrap .i64 (1 + r13)) + r24)) w0_3)
  (herdsmanref26_long.b9 Q b_a b_n b_c (IntKind.wrap .i64 (1 + r13)) w0_2)))
noncomputable def herdsmanref26_long.scr : Scrs := []
def herdsmanref26_long.R (Q : Int → World → Prop) (ρ : Env) (w : World) : Prop := evRes (cx 31) Go.Proofs.Try.f21.results.toList ρ w fun vs => herdsmanref26_long.qv Q (resV vs) w
def herdsmanref26_long.d9 (K : Option Addr → Nat → Nat → Int → Prop) (ρ : Env) : Prop :=
  dS (ρ 0) fun b_a b_n b_c => dI .i64 (ρ 4) fun n => K b_a b_n b_c n
theorem herdsmanref26_long.d9_elim {K : Option Addr → Nat → Nat → Int → Prop} {ρ : Env} (h0 : herdsmanref26_long.d9 K ρ) : ∃ (b_a : Option Addr) (b_n : Nat) (b_c : Nat) (n : Int), ρ 0 = .slice b_a b_n b_c ∧ ρ 4 = .int .i64 n ∧ K b_a b_n b_c n := by
  obtain ⟨b_a, b_n, b_c, e0, h1⟩ := dS_elim h0
  obtain ⟨n, e4, h2⟩ := dI_elim h1
  exact ⟨b_a, b_n, b_c, n, e0, e4, h2⟩
set_option maxRecDepth 100000 in
theorem herdsmanref26_long.f9 (Q : Int → World → Prop) : ∀ b_a b_n b_c n w, herdsmanref26_long.b9 Q b_a b_n b_c n w → ∀ ρ : Env, ρ 0 = .slice b_a b_n b_c → ρ 4 = .int .i64 n → Fin (cx 31) (todoOf Go.Proofs.Try.f21 9) ρ w (herdsmanref26_long.R Q) := by
  intro b_a b_n b_c n w h ρ e0 e4
  refine Fin.cut (ρ' := put (put (ρ) (some 0) (.slice b_a b_n b_c)) (some 4) (.int .i64 n)) ?_ (by rw [put_id e0, put_id e4])
  refine evT_sound (ok 31) (drawD_sound (ok 31) herdsmanref26_long.scr) 600 (L := []) (leaf_of (fn := Go.Proofs.Try.f21) [] (by kernel_rfl) trivial) (castK h (by kernel_rfl))
set_option maxRecDepth 100000 in
theorem herdsmanref26_long.body (b_a : Option Addr) (b_n : Nat) (b_c : Nat) (w : World) (Q : Int → World → Prop) (h : herdsmanref26_long.sh b_a b_n b_c w Q) : herdsmanref26_long.call b_a b_n b_c w Q := by
  refine call_fn (ok 31) (fn := Go.Proofs.Try.f21) (args := [.slice b_a b_n b_c]) (K := herdsmanref26_long.qv Q) Go.Proofs.Try.func21 (by kernel_rfl) (by kernel_rfl) (by kernel_rfl) ?_
  refine evT_sound (ok 31) (drawD_sound (ok 31) herdsmanref26_long.scr) 600 (L := [(9, fun ρ w => herdsmanref26_long.d9 (fun b_a b_n b_c n => herdsmanref26_long.b9 Q b_a b_n b_c n w) ρ)]) (leaf_of (fn := Go.Proofs.Try.f21) [9, 9] (by kernel_rfl) ⟨fun ρ w h => by obtain ⟨b_a, b_n, b_c, n, e0, e4, h⟩ := herdsmanref26_long.d9_elim (ρ := ρ) h; exact herdsmanref26_long.f9 Q b_a b_n b_c n w h ρ e0 e4, trivial⟩) (castK h (by kernel_rfl))
/-! ### 11 herdsman/herdsmanref26.Decode -/
def herdsmanref26_Decode.b23 (P3 : Option Addr → Nat → Nat → Option Addr → Nat → Nat → Int → World → Prop) (Q : Option Addr → Nat → Nat → World → Prop) (b_a : Option Addr) (b_n : Nat) (b_c : Nat) (out_a : Option Addr) (out_n : Nat) (out_c : Nat) (at0 : Int) (n : Int) (o : Addr) (w : World) : Prop :=
  LdI .i64 (o.add 0) w fun x83_Kind =>
  LdI .i64 (o.add 1) w fun x83_A =>
  LdI .i64 (o.add 2) w fun x83_B =>
  LdS (o.add 3) w fun x83_Map_a x83_Map_n x83_Map_c =>
  Bx [.int .i64 x83_Kind, .int .i64 x83_A, .int .i64 x83_B, .slice x83_Map_a x83_Map_n x83_Map_c] 30 w fun p84_s w0_1 =>
  App P #[25, 25] 25 (.slice out_a out_n out_c) (.slice (some p84_s) 1 1) w0_1 fun r85_a r85_n r85_c w0_2 =>
  P3 b_a b_n b_c r85_a r85_n r85_c (IntKind.wrap .i64 (at0 + n)) w0_2
def herdsmanref26_Decode.b20 (P3 : Option Addr → Nat → Nat → Option Addr → Nat → Nat → Int → World → Prop) (Q : Option Addr → Nat → Nat → World → Prop) (b_a : Option Addr) (b_n : Nat) (b_c : Nat) (out_a : Option Addr) (out_n : Nat) (out_c : Nat) (at0 : Int) (x_a : Option Addr) (x_n : Nat) (x_c : Nat) (n : Int) (o : Addr) (w : World) : Prop :=
  SlK x_a x_n x_c 1 (some 1) none fun s69_a s69_n s69_c =>
  SlK x_a x_n x_c 1 (some 5) none fun s72_a s72_n s72_c =>
  herdsmanref26_number.call s69_a s69_n s69_c w.drew fun r70 w0_1 =>
  herdsmanref26_number.call s72_a s72_n s72_c w0_1 fun r73 w0_2 =>
  St (o.add 1) (.int .i64 r70) w0_2 fun w0_3 =>
  St (o.add 2) (.int .i64 r73) w0_3 fun w0_4 =>
  herdsmanref26_Decode.b23 P3 Q b_a b_n b_c out_a out_n out_c at0 n o w0_4
def herdsmanref26_Decode.s3 (Q : Option Addr → Nat → Nat → World → Prop) (R3 : Option Addr → Nat → Nat → Option Addr → Nat → Nat → Int → World → Prop) (b_a : Option Addr) (b_n : Nat) (b_c : Nat) (out_a : Option Addr) (out_n : Nat) (out_c : Nat) (at0 : Int) (w : World) : Prop :=
  cond (decide (at0 < (b_n : Int)))
  (SlK b_a b_n b_c 1 (some at0) none fun s14_a s14_n s14_c =>
  herdsmanref26_long.call s14_a s14_n s14_c w fun r16 w0_1 =>
  cond (r16 == 0)
  (InB 0 s14_n <|
  wA s14_a fun p =>
  LdI .u8 (p.add (((0 : Int).toNat) * 1)) w0_1 fun x22 =>
  Bx [.int .i64 0, .int .i64 (IntKind.wrap .i64 x22), .int .i64 0, .slice none 0 0] 30 w0_1 fun p25_s w0_2 =>
  App P #[25, 25] 25 (.slice out_a out_n out_c) (.slice (some p25_s) 1 1) w0_2 fun r26_a r26_n r26_c w0_3 =>
  R3 b_a b_n b_c r26_a r26_n r26_c (IntKind.wrap .i64 (at0 + 1)) w0_3)
  (cond (decide (r16 < 0))
  (Bx [] 5 w0_1 fun p32_s w0_4 =>
  App P #[22, 22] 22 (.slice (some p32_s) 0 0) (.slice s14_a s14_n s14_c) w0_4 fun r34_a r34_n r34_c w0_5 =>
  Bx [.int .i64 0, .int .i64 (-1), .int .i64 0, .slice r34_a r34_n r34_c] 30 w0_5 fun p36_s w0_6 =>
  App P #[25, 25] 25 (.slice out_a out_n out_c) (.slice (some p36_s) 1 1) w0_6 fun r37_a r37_n r37_c w0_7 =>
  Q r37_a r37_n r37_c w0_7)
  (InB 0 s14_n <|
  wA s14_a fun p_1 =>
  LdI .u8 (p_1.add (((0 : Int).toNat) * 1)) w0_1 fun x40 =>
  Al T 30 w0_1 fun o w0_8 =>
  St (o.add 0) (.int .i64 (IntKind.wrap .i64 x40)) w0_8 fun w0_9 =>
  St (o.add 1) (.int .i64 0) w0_9 fun w0_10 =>
  St (o.add 2) (.int .i64 0) w0_10 fun w0_11 =>
  St (o.add 3) (.slice none 0 0) w0_11 fun w0_12 =>
  LdI .i64 o w0_12 fun x44 =>
  cond (x44 == 1)
  (Bx [] 5 w0_12 fun p47_s w0_13 =>
  SlK s14_a s14_n s14_c 1 (some 5) (some r16) fun s50_a s50_n s50_c =>
  App P #[22, 22] 22 (.slice (some p47_s) 0 0) (.slice s50_a s50_n s50_c) w0_13 fun r51_a r51_n r51_c w0_14 =>
  St (o.add 3) (.slice r51_a r51_n r51_c) w0_14 fun w0_15 =>
  herdsmanref26_Decode.b23 R3 Q b_a b_n b_c out_a out_n out_c at0 r16 o w0_15)
  (cond (x44 == 2)
  (SlK s14_a s14_n s14_c 1 (some 1) none fun s56_a s56_n s56_c =>
  InB 5 s14_n <|
  wA s14_a fun p_2 =>
  LdI .u8 (p_2.add (((5 : Int).toNat) * 1)) w0_12.drew fun x60 =>
  herdsmanref26_number.call s56_a s56_n s56_c w0_12.drew fun r57 w0_16 =>
  w0_16.cell? (p_2.add (((5 : Int).toNat) * 1)) = some (.int .u8 x60) ∧
  St (o.add 1) (.int .i64 r57) w0_16 fun w0_17 =>
  w0_17.cell? (p_2.add (((5 : Int).toNat) * 1)) = some (.int .u8 x60) ∧
  St (o.add 2) (.int .i64 (IntKind.wrap .i64 x60)) w0_17 fun w0_18 =>
  herdsmanref26_Decode.b23 R3 Q b_a b_n b_c out_a out_n out_c at0 r16 o w0_18)
  (cond (x44 == 3)
  (herdsmanref26_Decode.b20 R3 Q b_a b_n b_c out_a out_n out_c at0 s14_a s14_n s14_c r16 o w0_12)
  (cond (x44 == 4)
  (herdsmanref26_Decode.b20 R3 Q b_a b_n b_c out_a out_n out_c at0 s14_a s14_n s14_c r16 o w0_12)
  (cond (x44 == 6)
  (herdsmanref26_Decode.b20 R3 Q b_a b_n b_c out_a out_n out_c at0 s14_a s14_n s14_c r16 o w0_12)
  (cond (x44 == 5)
  (SlK s14_a s14_n s14_c 1 (some 1) none fun s79_a s79_n s79_c =>
  herdsmanref26_number.call s79_a s79_n s79_c w0_12 fun r80 w0_19 =>
  St (o.add 1) (.int .i64 r80) w0_19 fun w0_20 =>
  herdsmanref26_Decode.b23 R3 Q b_a b_n b_c out_a out_n out_c at0 r16 o w0_20)
  (herdsmanref26_Decode.b23 R3 Q b_a b_n b_c out_a out_n out_c at0 r16 o w0_12)))))))))
  (Q out_a out_n out_c w)
def herdsmanref26_Decode.b3 (Q : Option Addr → Nat → Nat → World → Prop) : Nat → Option Addr → Nat → Nat → Option Addr → Nat → Nat → Int → World → Prop
  | 0, _, _, _, _, _, _, _, _ => False
  | k + 1, b_a, b_n, b_c, out_a, out_n, out_c, at0, w => herdsmanref26_Decode.s3 Q (herdsmanref26_Decode.b3 Q k) b_a b_n b_c out_a out_n out_c at0 w
def herdsmanref26_Decode.sh (b_a : Option Addr) (b_n : Nat) (b_c : Nat) (w : World) (Q : Option Addr → Nat → Nat → World → Prop) : Prop :=
  ∃ k', herdsmanref26_Decode.b3 Q k' b_a b_n b_c none 0 0 0 w
noncomputable def herdsmanref26_Decode.scr : Scrs := [(16, .op 0 (.op 1 (.op 3 (.op 4 (.op 5 (.op 6 (.op 2 (.op 7 (.op 8 (.op 9 (.op 10 .done))))))))))), (20, .op 0 (.op 1 (.op 3 (.op 4 (.op 2 (.op 6 (.op 5 (.op 7 (.op 8 (.op 9 .done))))))))))]
def herdsmanref26_Decode.R (Q : Option Addr → Nat → Nat → World → Prop) (ρ : Env) (w : World) : Prop := evRes (cx 90) Go.Proofs.Try.f11.results.toList ρ w fun vs => herdsmanref26_Decode.qv Q (resV vs) w
def herdsmanref26_Decode.d3 (K : Option Addr → Nat → Nat → Option Addr → Nat → Nat → Int → Prop) (ρ : Env) : Prop :=
  dS (ρ 0) fun b_a b_n b_c => dS (ρ 3) fun out_a out_n out_c => dI .i64 (ρ 4) fun at0 => K b_a b_n b_c out_a out_n out_c at0
theorem herdsmanref26_Decode.d3_elim {K : Option Addr → Nat → Nat → Option Addr → Nat → Nat → Int → Prop} {ρ : Env} (h0 : herdsmanref26_Decode.d3 K ρ) : ∃ (b_a : Option Addr) (b_n : Nat) (b_c : Nat) (out_a : Option Addr) (out_n : Nat) (out_c : Nat) (at0 : Int), ρ 0 = .slice b_a b_n b_c ∧ ρ 3 = .slice out_a out_n out_c ∧ ρ 4 = .int .i64 at0 ∧ K b_a b_n b_c out_a out_n out_c at0 := by
  obtain ⟨b_a, b_n, b_c, e0, h1⟩ := dS_elim h0
  obtain ⟨out_a, out_n, out_c, e3, h2⟩ := dS_elim h1
  obtain ⟨at0, e4, h3⟩ := dI_elim h2
  exact ⟨b_a, b_n, b_c, out_a, out_n, out_c, at0, e0, e3, e4, h3⟩
def herdsmanref26_Decode.d20 (K : Option Addr → Nat → Nat → Option Addr → Nat → Nat → Int → Option Addr → Nat → Nat → Int → Addr → Prop) (ρ : Env) : Prop :=
  dS (ρ 0) fun b_a b_n b_c => dS (ρ 3) fun out_a out_n out_c => dI .i64 (ρ 4) fun at0 => dS (ρ 5) fun x_a x_n x_c => dI .i64 (ρ 6) fun n => dP (ρ 7) fun o_p => wA o_p fun o => K b_a b_n b_c out_a out_n out_c at0 x_a x_n x_c n o
theorem herdsmanref26_Decode.d20_elim {K : Option Addr → Nat → Nat → Option Addr → Nat → Nat → Int → Option Addr → Nat → Nat → Int → Addr → Prop} {ρ : Env} (h0 : herdsmanref26_Decode.d20 K ρ) : ∃ (b_a : Option Addr) (b_n : Nat) (b_c : Nat) (out_a : Option Addr) (out_n : Nat) (out_c : Nat) (at0 : Int) (x_a : Option Addr) (x_n : Nat) (x_c : Nat) (n : Int) (o : Addr), ρ 0 = .slice b_a b_n b_c ∧ ρ 3 = .slice out_a out_n out_c ∧ ρ 4 = .int .i64 at0 ∧ ρ 5 = .slice x_a x_n x_c ∧ ρ 6 = .int .i64 n ∧ ρ 7 = .pointer (some o) ∧ K b_a b_n b_c out_a out_n out_c at0 x_a x_n x_c n o := by
  obtain ⟨b_a, b_n, b_c, e0, h1⟩ := dS_elim h0
  obtain ⟨out_a, out_n, out_c, e3, h2⟩ := dS_elim h1
  obtain ⟨at0, e4, h3⟩ := dI_elim h2
  obtain ⟨x_a, x_n, x_c, e5, h4⟩ := dS_elim h3
  obtain ⟨n, e6, h5⟩ := dI_elim h4
  obtain ⟨o_p, e7, h6⟩ := dP_elim h5
  obtain ⟨o, rfl, h7⟩ := wA_elim h6
  exact ⟨b_a, b_n, b_c, out_a, out_n, out_c, at0, x_a, x_n, x_c, n, o, e0, e3, e4, e5, e6, e7, h7⟩
def herdsmanref26_Decode.d23 (K : Option Addr → Nat → Nat → Option Addr → Nat → Nat → Int → Int → Addr → Prop) (ρ : Env) : Prop :=
  dS (ρ 0) fun b_a b_n b_c => dS (ρ 3) fun out_a out_n out_c => dI .i64 (ρ 4) fun at0 => dI .i64 (ρ 6) fun n => dP (ρ 7) fun o_p => wA o_p fun o => K b_a b_n b_c out_a out_n out_c at0 n o
theorem herdsmanref26_Decode.d23_elim {K : Option Addr → Nat → Nat → Option Addr → Nat → Nat → Int → Int → Addr → Prop} {ρ : Env} (h0 : herdsmanref26_Decode.d23 K ρ) : ∃ (b_a : Option Addr) (b_n : Nat) (b_c : Nat) (out_a : Option Addr) (out_n : Nat) (out_c : Nat) (at0 : Int) (n : Int) (o : Addr), ρ 0 = .slice b_a b_n b_c ∧ ρ 3 = .slice out_a out_n out_c ∧ ρ 4 = .int .i64 at0 ∧ ρ 6 = .int .i64 n ∧ ρ 7 = .pointer (some o) ∧ K b_a b_n b_c out_a out_n out_c at0 n o := by
  obtain ⟨b_a, b_n, b_c, e0, h1⟩ := dS_elim h0
  obtain ⟨out_a, out_n, out_c, e3, h2⟩ := dS_elim h1
  obtain ⟨at0, e4, h3⟩ := dI_elim h2
  obtain ⟨n, e6, h4⟩ := dI_elim h3
  obtain ⟨o_p, e7, h5⟩ := dP_elim h4
  obtain ⟨o, rfl, h6⟩ := wA_elim h5
  exact ⟨b_a, b_n, b_c, out_a, out_n, out_c, at0, n, o, e0, e3, e4, e6, e7, h6⟩
set_option maxRecDepth 100000 in
theorem herdsmanref26_Decode.f23 (P3 : Option Addr → Nat → Nat → Option Addr → Nat → Nat → Int → World → Prop) (Q : Option Addr → Nat → Nat → World → Prop) (HP3 : ∀ b_a b_n b_c out_a out_n out_c at0 w, P3 b_a b_n b_c out_a out_n out_c at0 w → ∀ ρ : Env, ρ 0 = .slice b_a b_n b_c → ρ 3 = .slice out_a out_n out_c → ρ 4 = .int .i64 at0 → Fin (cx 90) (todoOf Go.Proofs.Try.f11 3) ρ w (herdsmanref26_Decode.R Q)) : ∀ b_a b_n b_c out_a out_n out_c at0 n o w, herdsmanref26_Decode.b23 P3 Q b_a b_n b_c out_a out_n out_c at0 n o w → ∀ ρ : Env, ρ 0 = .slice b_a b_n b_c → ρ 3 = .slice out_a out_n out_c → ρ 4 = .int .i64 at0 → ρ 6 = .int .i64 n → ρ 7 = .pointer (some o) → Fin (cx 90) (todoOf Go.Proofs.Try.f11 23) ρ w (herdsmanref26_Decode.R Q) := by
  intro b_a b_n b_c out_a out_n out_c at0 n o w h ρ e0 e3 e4 e6 e7
  refine Fin.cut (ρ' := put (put (put (put (put (ρ) (some 0) (.slice b_a b_n b_c)) (some 3) (.slice out_a out_n out_c)) (some 4) (.int .i64 at0)) (some 6) (.int .i64 n)) (some 7) (.pointer (some o))) ?_ (by rw [put_id e0, put_id e3, put_id e4, put_id e6, put_id e7])
  refine evT_sound (ok 90) (drawD_sound (ok 90) herdsmanref26_Decode.scr) 600 (L := [(3, fun ρ w => herdsmanref26_Decode.d3 (fun b_a b_n b_c out_a out_n out_c at0 => P3 b_a b_n b_c out_a out_n out_c at0 w) ρ)]) (leaf_of (fn := Go.Proofs.Try.f11) [3] (by kernel_rfl) ⟨fun ρ w h => by obtain ⟨b_a, b_n, b_c, out_a, out_n, out_c, at0, e0, e3, e4, h⟩ := herdsmanref26_Decode.d3_elim (ρ := ρ) h; exact HP3 b_a b_n b_c out_a out_n out_c at0 w h ρ e0 e3 e4, trivial⟩) (castK h (by kernel_rfl))
set_option maxRecDepth 100000 in
theorem herdsmanref26_Decode.f20 (P3 : Option Addr → Nat → Nat → Option Addr → Nat → Nat → Int → World → Prop) (Q : Option Addr → Nat → Nat → World → Prop) (HP3 : ∀ b_a b_n b_c out_a out_n out_c at0 w, P3 b_a b_n b_c out_a out_n out_c at0 w → ∀ ρ : Env, ρ 0 = .slice b_a b_n b_c → ρ 3 = .slice out_a out_n out_c → ρ 4 = .int .i64 at0 → Fin (cx 90) (todoOf Go.Proofs.Try.f11 3) ρ w (herdsmanref26_Decode.R Q)) : ∀ b_a b_n b_c out_a out_n out_c at0 x_a x_n x_c n o w, herdsmanref26_Decode.b20 P3 Q b_a b_n b_c out_a out_n out_c at0 x_a x_n x_c n o w → ∀ ρ : Env, ρ 0 = .slice b_a b_n b_c → ρ 3 = .slice out_a out_n out_c → ρ 4 = .int .i64 at0 → ρ 5 = .slice x_a x_n x_c → ρ 6 = .int .i64 n → ρ 7 = .pointer (some o) → Fin (cx 90) (todoOf Go.Proofs.Try.f11 20) ρ w (herdsmanref26_Decode.R Q) := by
  intro b_a b_n b_c out_a out_n out_c at0 x_a x_n x_c n o w h ρ e0 e3 e4 e5 e6 e7
  refine Fin.cut (ρ' := put (put (put (put (put (put (ρ) (some 0) (.slice b_a b_n b_c)) (some 3) (.slice out_a out_n out_c)) (some 4) (.int .i64 at0)) (some 5) (.slice x_a x_n x_c)) (some 6) (.int .i64 n)) (some 7) (.pointer (some o))) ?_ (by rw [put_id e0, put_id e3, put_id e4, put_id e5, put_id e6, put_id e7])
  refine evT_sound (ok 90) (drawD_sound (ok 90) herdsmanref26_Decode.scr) 600 (L := [(23, fun ρ w => herdsmanref26_Decode.d23 (fun b_a b_n b_c out_a out_n out_c at0 n o => herdsmanref26_Decode.b23 P3 Q b_a b_n b_c out_a out_n out_c at0 n o w) ρ)]) (leaf_of (fn := Go.Proofs.Try.f11) [23] (by kernel_rfl) ⟨fun ρ w h => by obtain ⟨b_a, b_n, b_c, out_a, out_n, out_c, at0, n, o, e0, e3, e4, e6, e7, h⟩ := herdsmanref26_Decode.d23_elim (ρ := ρ) h; exact herdsmanref26_Decode.f23 P3 Q HP3 b_a b_n b_c out_a out_n out_c at0 n o w h ρ e0 e3 e4 e6 e7, trivial⟩) (castK h (by kernel_rfl))
set_option maxRecDepth 100000 in
theorem herdsmanref26_Decode.f3 (Q : Option Addr → Nat → Nat → World → Prop) : ∀ k b_a b_n b_c out_a out_n out_c at0 w, herdsmanref26_Decode.b3 Q k b_a b_n b_c out_a out_n out_c at0 w → ∀ ρ : Env, ρ 0 = .slice b_a b_n b_c → ρ 3 = .slice out_a out_n out_c → ρ 4 = .int .i64 at0 → Fin (cx 90) (todoOf Go.Proofs.Try.f11 3) ρ w (herdsmanref26_Decode.R Q) := by
  intro k
  induction k with
  | zero => intro b_a b_n b_c out_a out_n out_c at0 w h; exact h.elim
  | succ k ih =>
    intro b_a b_n b_c out_a out_n out_c at0 w h ρ e0 e3 e4
    have h : herdsmanref26_Decode.s3 Q (herdsmanref26_Decode.b3 Q k) b_a b_n b_c out_a out_n out_c at0 w := h
    refine Fin.cut (ρ' := put (put (put (ρ) (some 0) (.slice b_a b_n b_c)) (some 3) (.slice out_a out_n out_c)) (some 4) (.int .i64 at0)) ?_ (by rw [put_id e0, put_id e3, put_id e4])
    refine evT_sound (ok 90) (drawD_sound (ok 90) herdsmanref26_Decode.scr) 600 (L := [(3, fun ρ w => herdsmanref26_Decode.d3 (fun b_a b_n b_c out_a out_n out_c at0 => herdsmanref26_Decode.b3 Q k b_a b_n b_c out_a out_n out_c at0 w) ρ), (20, fun ρ w => herdsmanref26_Decode.d20 (fun b_a b_n b_c out_a out_n out_c at0 x_a x_n x_c n o => herdsmanref26_Decode.b20 (herdsmanref26_Decode.b3 Q k) Q b_a b_n b_c out_a out_n out_c at0 x_a x_n x_c n o w) ρ), (23, fun ρ w => herdsmanref26_Decode.d23 (fun b_a b_n b_c out_a out_n out_c at0 n o => herdsmanref26_Decode.b23 (herdsmanref26_Decode.b3 Q k) Q b_a b_n b_c out_a out_n out_c at0 n o w) ρ)]) (leaf_of (fn := Go.Proofs.Try.f11) [3, 23, 23, 20, 23, 23, 20, 23, 23, 20, 23, 23] (by kernel_rfl) ⟨fun ρ w h => by obtain ⟨b_a, b_n, b_c, out_a, out_n, out_c, at0, e0, e3, e4, h⟩ := herdsmanref26_Decode.d3_elim (ρ := ρ) h; exact ih b_a b_n b_c out_a out_n out_c at0 w h ρ e0 e3 e4, fun ρ w h => by obtain ⟨b_a, b_n, b_c, out_a, out_n, out_c, at0, x_a, x_n, x_c, n, o, e0, e3, e4, e5, e6, e7, h⟩ := herdsmanref26_Decode.d20_elim (ρ := ρ) h; exact herdsmanref26_Decode.f20 (herdsmanref26_Decode.b3 Q k) Q ih b_a b_n b_c out_a out_n out_c at0 x_a x_n x_c n o w h ρ e0 e3 e4 e5 e6 e7, fun ρ w h => by obtain ⟨b_a, b_n, b_c, out_a, out_n, out_c, at0, n, o, e0, e3, e4, e6, e7, h⟩ := herdsmanref26_Decode.d23_elim (ρ := ρ) h; exact herdsmanref26_Decode.f23 (herdsmanref26_Decode.b3 Q k) Q ih b_a b_n b_c out_a out_n out_c at0 n o w h ρ e0 e3 e4 e6 e7, trivial⟩) (castK h (by kernel_rfl))
set_option maxRecDepth 100000 in
theorem herdsmanref26_Decode.body (b_a : Option Addr) (b_n : Nat) (b_c : Nat) (w : World) (Q : Option Addr → Nat → Nat → World → Prop) (h : herdsmanref26_Decode.sh b_a b_n b_c w Q) : herdsmanref26_Decode.call b_a b_n b_c w Q := by
  refine call_fn (ok 90) (fn := Go.Proofs.Try.f11) (args := [.slice b_a b_n b_c]) (K := herdsmanref26_Decode.qv Q) Go.Proofs.Try.func11 (by kernel_rfl) (by kernel_rfl) (by kernel_rfl) ?_
  refine evT_sound (ok 90) (drawD_sound (ok 90) herdsmanref26_Decode.scr) 600 (L := [(3, fun ρ w => herdsmanref26_Decode.d3 (fun b_a b_n b_c out_a out_n out_c at0 => ∃ k', herdsmanref26_Decode.b3 Q k' b_a b_n b_c out_a out_n out_c at0 w) ρ)]) (leaf_of (fn := Go.Proofs.Try.f11) [3] (by kernel_rfl) ⟨fun ρ w h => by obtain ⟨b_a, b_n, b_c, out_a, out_n, out_c, at0, e0, e3, e4, h⟩ := herdsmanref26_Decode.d3_elim (ρ := ρ) h; obtain ⟨k', h⟩ := h; exact herdsmanref26_Decode.f3 Q k' b_a b_n b_c out_a out_n out_c at0 w h ρ e0 e3 e4, trivial⟩) (castK h (by kernel_rfl))
/-! ### 3 herdsman/herdsmanlaw26.OpReads -/
def herdsmanlaw26_OpReads.b9 (Q : Bool → World → Prop) (x_a : Option Addr) (x_n : Nat) (x_c : Nat) (w : World) : Prop :=
  Bx [] 5 w fun p38_s w0_1 =>
  App P #[22, 22] 22 (.slice (some p38_s) 0 0) (.slice x_a x_n x_c) w0_1 fun r40_a r40_n r40_c w0_2 =>
  herdsmanlaw26_told.call w0_2 fun r41 w0_3 =>
  cond r41
  (op_Decode.call x_a x_n x_c w0_3 fun r44_a r44_n r44_c w0_4 =>
  herdsmanref26_Decode.call x_a x_n x_c w0_4 fun r46_a r46_n r46_c w0_5 =>
  herdsmanref26_SameAll.call r44_a r44_n r44_c r46_a r46_n r46_c w0_5 fun r47 w0_6 =>
  cond r47
  (herdsmanref1_Bytes.call x_a x_n x_c r40_a r40_n r40_c w0_6 fun r52 w0_7 =>
  Q r52 w0_7)
  (Q false w0_6))
  (Q false w0_3)
def herdsmanlaw26_OpReads.s5 (Q : Bool → World → Prop) (R5 : Bool → Option Addr → Nat → Nat → Int → World → Prop) (raw : Bool) (x_a : Option Addr) (x_n : Nat) (x_c : Nat) (i : Int) (w : World) : Prop :=
  cond (decide (i < (x_n : Int)))
  (cond (!raw)
  (InB i x_n <|
  wA x_a fun p =>
  LdI .u8 (p.add (i.toNat * 1)) w fun x28 =>
  cond (decide (x28 > 30))
  (InB i x_n <|
  wA x_a fun p_1 =>
  LdI .u8 (p_1.add (i.toNat * 1)) w fun x35 =>
  NZ 10 <|
  InB i x_n <|
  wA x_a fun p_2 =>
  St (p_2.add (i.toNat * 1)) (.int .u8 (Int.tmod x35 10)) w fun w0_1 =>
  R5 raw x_a x_n x_c (IntKind.wrap .i64 (i + 1)) w0_1)
  (R5 raw x_a x_n x_c (IntKind.wrap .i64 (i + 1)) w))
  (herdsmanlaw26_OpReads.b9 Q x_a x_n x_c w))
  (herdsmanlaw26_OpReads.b9 Q x_a x_n x_c w)
def herdsmanlaw26_OpReads.b5 (Q : Bool → World → Prop) : Nat → Bool → Option Addr → Nat → Nat → Int → World → Prop
  | 0, _, _, _, _, _, _ => False
  | k + 1, raw, x_a, x_n, x_c, i, w => herdsmanlaw26_OpReads.s5 Q (herdsmanlaw26_OpReads.b5 Q k) raw x_a x_n x_c i w
def herdsmanlaw26_OpReads.sh (b_a : Option Addr) (b_n : Nat) (b_c : Nat) (raw : Bool) (w : World) (Q : Bool → World → Prop) : Prop :=
  cond (decide ((b_n : Int) > 600))
  (herdsmanlaw26_told.call w fun r11 w0_1 =>
  Q r11 w0_1)
  (Bx [] 5 w fun p12_s w0_2 =>
  App P #[22, 22] 22 (.slice (some p12_s) 0 0) (.slice b_a b_n b_c) w0_2 fun r14_a r14_n r14_c w0_3 =>
  ∃ k', herdsmanlaw26_OpReads.b5 Q k' raw r14_a r14_n r14_c 0 w0_3)
noncomputable def herdsmanlaw26_OpReads.scr : Scrs := []
def herdsmanlaw26_OpReads.R (Q : Bool → World → Prop) (ρ : Env) (w : World) : Prop := evRes (cx 54) Go.Proofs.Try.f3.results.toList ρ w fun vs => herdsmanlaw26_OpReads.qv Q (resV vs) w
def herdsmanlaw26_OpReads.d5 (K : Bool → Option Addr → Nat → Nat → Int → Prop) (ρ : Env) : Prop :=
  dB (ρ 1) fun raw => dS (ρ 5) fun x_a x_n x_c => dI .i64 (ρ 6) fun i => K raw x_a x_n x_c i
theorem herdsmanlaw26_OpReads.d5_elim {K : Bool → Option Addr → Nat → Nat → Int → Prop} {ρ : Env} (h0 : herdsmanlaw26_OpReads.d5 K ρ) : ∃ (raw : Bool) (x_a : Option Addr) (x_n : Nat) (x_c : Nat) (i : Int), ρ 1 = .bool raw ∧ ρ 5 = .slice x_a x_n x_c ∧ ρ 6 = .int .i64 i ∧ K raw x_a x_n x_c i := by
  obtain ⟨raw, e1, h1⟩ := dB_elim h0
  obtain ⟨x_a, x_n, x_c, e5, h2⟩ := dS_elim h1
  obtain ⟨i, e6, h3⟩ := dI_elim h2
  exact ⟨raw, x_a, x_n, x_c, i, e1, e5, e6, h3⟩
def herdsmanlaw26_OpReads.d9 (K : Option Addr → Nat → Nat → Prop) (ρ : Env) : Prop :=
  dS (ρ 5) fun x_a x_n x_c => K x_a x_n x_c
theorem herdsmanlaw26_OpReads.d9_elim {K : Option Addr → Nat → Nat → Prop} {ρ : Env} (h0 : herdsmanlaw26_OpReads.d9 K ρ) : ∃ (x_a : Option Addr) (x_n : Nat) (x_c : Nat), ρ 5 = .slice x_a x_n x_c ∧ K x_a x_n x_c := by
  obtain ⟨x_a, x_n, x_c, e5, h1⟩ := dS_elim h0
  exact ⟨x_a, x_n, x_c, e5, h1⟩
set_option maxRecDepth 100000 in
theorem herdsmanlaw26_OpReads.f9 (Q : Bool → World → Prop) : ∀ x_a x_n x_c w, herdsmanlaw26_OpReads.b9 Q x_a x_n x_c w → ∀ ρ : Env, ρ 5 = .slice x_a x_n x_c → Fin (cx 54) (todoOf Go.Proofs.Try.f3 9) ρ w (herdsmanlaw26_OpReads.R Q) := by
  intro x_a x_n x_c w h ρ e5
  refine Fin.cut (ρ' := put (ρ) (some 5) (.slice x_a x_n x_c)) ?_ (by rw [put_id e5])
  refine evT_sound (ok 54) (drawD_sound (ok 54) herdsmanlaw26_OpReads.scr) 600 (L := []) (leaf_of (fn := Go.Proofs.Try.f3) [] (by kernel_rfl) trivial) (castK h (by kernel_rfl))
set_option maxRecDepth 100000 in
theorem herdsmanlaw26_OpReads.f5 (Q : Bool → World → Prop) : ∀ k raw x_a x_n x_c i w, herdsmanlaw26_OpReads.b5 Q k raw x_a x_n x_c i w → ∀ ρ : Env, ρ 1 = .bool raw → ρ 5 = .slice x_a x_n x_c → ρ 6 = .int .i64 i → Fin (cx 54) (todoOf Go.Proofs.Try.f3 5) ρ w (herdsmanlaw26_OpReads.R Q) := by
  intro k
  induction k with
  | zero => intro raw x_a x_n x_c i w h; exact h.elim
  | succ k ih =>
    intro raw x_a x_n x_c i w h ρ e1 e5 e6
    have h : herdsmanlaw26_OpReads.s5 Q (herdsmanlaw26_OpReads.b5 Q k) raw x_a x_n x_c i w := h
    refine Fin.cut (ρ' := put (put (put (ρ) (some 1) (.bool raw)) (some 5) (.slice x_a x_n x_c)) (some 6) (.int .i64 i)) ?_ (by rw [put_id e1, put_id e5, put_id e6])
    refine evT_sound (ok 54) (drawD_sound (ok 54) herdsmanlaw26_OpReads.scr) 600 (L := [(5, fun ρ w => herdsmanlaw26_OpReads.d5 (fun raw x_a x_n x_c i => herdsmanlaw26_OpReads.b5 Q k raw x_a x_n x_c i w) ρ), (9, fun ρ w => herdsmanlaw26_OpReads.d9 (fun x_a x_n x_c => herdsmanlaw26_OpReads.b9 Q x_a x_n x_c w) ρ)]) (leaf_of (fn := Go.Proofs.Try.f3) [5, 5, 9] (by kernel_rfl) ⟨fun ρ w h => by obtain ⟨raw, x_a, x_n, x_c, i, e1, e5, e6, h⟩ := herdsmanlaw26_OpReads.d5_elim (ρ := ρ) h; exact ih raw x_a x_n x_c i w h ρ e1 e5 e6, fun ρ w h => by obtain ⟨x_a, x_n, x_c, e5, h⟩ := herdsmanlaw26_OpReads.d9_elim (ρ := ρ) h; exact herdsmanlaw26_OpReads.f9 Q x_a x_n x_c w h ρ e5, trivial⟩) (castK h (by kernel_rfl))
set_option maxRecDepth 100000 in
theorem herdsmanlaw26_OpReads.body (b_a : Option Addr) (b_n : Nat) (b_c : Nat) (raw : Bool) (w : World) (Q : Bool → World → Prop) (h : herdsmanlaw26_OpReads.sh b_a b_n b_c raw w Q) : herdsmanlaw26_OpReads.call b_a b_n b_c raw w Q := by
  refine call_fn (ok 54) (fn := Go.Proofs.Try.f3) (args := [.slice b_a b_n b_c, .bool raw]) (K := herdsmanlaw26_OpReads.qv Q) Go.Proofs.Try.func3 (by kernel_rfl) (by kernel_rfl) (by kernel_rfl) ?_
  refine evT_sound (ok 54) (drawD_sound (ok 54) herdsmanlaw26_OpReads.scr) 600 (L := [(5, fun ρ w => herdsmanlaw26_OpReads.d5 (fun raw x_a x_n x_c i => ∃ k', herdsmanlaw26_OpReads.b5 Q k' raw x_a x_n x_c i w) ρ)]) (leaf_of (fn := Go.Proofs.Try.f3) [5] (by kernel_rfl) ⟨fun ρ w h => by obtain ⟨raw, x_a, x_n, x_c, i, e1, e5, e6, h⟩ := herdsmanlaw26_OpReads.d5_elim (ρ := ρ) h; obtain ⟨k', h⟩ := h; exact herdsmanlaw26_OpReads.f5 Q k' raw x_a x_n x_c i w h ρ e1 e5 e6, trivial⟩) (castK h (by kernel_rfl))
end Go.Proofs.Ytjndgflalbcngaa.S
