/- What the bodies ask, and that a call is no more. Printed by a program of this work (sxgen.py) out of the translation. -/
import Derived.Test.YtfkpabfamfeggaaXT
set_option linter.unusedVariables false
set_option linter.unusedSimpArgs false
namespace Go.Proofs.Ytfkpabfamfeggaa.S
open Go.Sx
/-! ### 8 herdsman/herdsmanref1.Within -/
def herdsmanref1_Within.sh (n : Int) (lo : Int) (hi : Int) (w : World) (Q : Int → World → Prop) : Prop :=
  NZ (IntKind.wrap .i64 ((IntKind.wrap .i64 (hi - lo)) + 1)) <|
  cond (decide ((Int.tmod n (IntKind.wrap .i64 ((IntKind.wrap .i64 (hi - lo)) + 1))) < 0))
  (Q (IntKind.wrap .i64 (lo + (IntKind.wrap .i64 ((IntKind.wrap .i64 ((IntKind.wrap .i64 ((Int.tmod n (IntKind.wrap .i64 ((IntKind.wrap .i64 (hi - lo)) + 1))) + hi)) - lo)) + 1)))) w)
  (Q (IntKind.wrap .i64 (lo + (Int.tmod n (IntKind.wrap .i64 ((IntKind.wrap .i64 (hi - lo)) + 1))))) w)
noncomputable def herdsmanref1_Within.scr : Scrs := []
def herdsmanref1_Within.R (Q : Int → World → Prop) (ρ : Env) (w : World) : Prop := evRes (cx 24) Go.Proofs.Try.f8.results.toList ρ w fun vs => herdsmanref1_Within.qv Q (resV vs) w
set_option maxRecDepth 100000 in
theorem herdsmanref1_Within.body (n : Int) (lo : Int) (hi : Int) (w : World) (Q : Int → World → Prop) (h : herdsmanref1_Within.sh n lo hi w Q) : herdsmanref1_Within.call n lo hi w Q := by
  refine call_fn (ok 24) (fn := Go.Proofs.Try.f8) (args := [.int .i64 n, .int .i64 lo, .int .i64 hi]) (K := herdsmanref1_Within.qv Q) Go.Proofs.Try.func8 (by kernel_rfl) (by kernel_rfl) (by kernel_rfl) ?_
  refine evT_sound (ok 24) (drawD_sound (ok 24) herdsmanref1_Within.scr) 600 (L := []) (leaf_of (fn := Go.Proofs.Try.f8) [] (by kernel_rfl) trivial) (castK h (by kernel_rfl))
/-! ### 14 (*herdsman/lru.Lru).Clear -/
def lru_Lru_Clear.sh (l : Option Addr) (w : World) (Q : World → Prop) : Prop :=
  cond (!l.isNone)
  (MkM P 48 none w fun m8 w0_1 =>
  wA l fun p9 =>
  St (p9.add 1) (.slice none 0 0) w0_1 fun w0_2 =>
  wA l fun p11 =>
  St (p11.add 2) (.map m8) w0_2 fun w0_3 =>
  wA l fun p13 =>
  St (p13.add 3) (.int .i64 (-1)) w0_3 fun w0_4 =>
  wA l fun p15 =>
  St (p15.add 4) (.int .i64 (-1)) w0_4 fun w0_5 =>
  Q w0_5)
  (Q w)
noncomputable def lru_Lru_Clear.scr : Scrs := []
def lru_Lru_Clear.R (Q : World → Prop) (ρ : Env) (w : World) : Prop := evRes (cx 17) Go.Proofs.Try.f14.results.toList ρ w fun vs => lru_Lru_Clear.qv Q (resV vs) w
set_option maxRecDepth 100000 in
theorem lru_Lru_Clear.body (l : Option Addr) (w : World) (Q : World → Prop) (h : lru_Lru_Clear.sh l w Q) : lru_Lru_Clear.call l w Q := by
  refine call_fn (ok 17) (fn := Go.Proofs.Try.f14) (args := [.pointer l]) (K := lru_Lru_Clear.qv Q) Go.Proofs.Try.func14 (by kernel_rfl) (by kernel_rfl) (by kernel_rfl) ?_
  refine evT_sound (ok 17) (drawD_sound (ok 17) lru_Lru_Clear.scr) 600 (L := []) (leaf_of (fn := Go.Proofs.Try.f14) [] (by kernel_rfl) trivial) (castK h (by kernel_rfl))
/-! ### 9 herdsman/lru.New -/
def lru_New.sh (k0 : Int) (w : World) (Q : Option Addr → World → Prop) : Prop :=
  cond (decide (k0 < 1))
  (Q none w)
  (Bx [.int .i64 k0, .slice none 0 0, .map none, .int .i64 0, .int .i64 0] 50 w fun p8_b w0_1 =>
  lru_Lru_Clear.call (some p8_b) w0_1 fun w0_2 =>
  Q (some p8_b) w0_2)
noncomputable def lru_New.scr : Scrs := []
def lru_New.R (Q : Option Addr → World → Prop) (ρ : Env) (w : World) : Prop := evRes (cx 12) Go.Proofs.Try.f9.results.toList ρ w fun vs => lru_New.qv Q (resV vs) w
set_option maxRecDepth 100000 in
theorem lru_New.body (k0 : Int) (w : World) (Q : Option Addr → World → Prop) (h : lru_New.sh k0 w Q) : lru_New.call k0 w Q := by
  refine call_fn (ok 12) (fn := Go.Proofs.Try.f9) (args := [.int .i64 k0]) (K := lru_New.qv Q) Go.Proofs.Try.func9 (by kernel_rfl) (by kernel_rfl) (by kernel_rfl) ?_
  refine evT_sound (ok 12) (drawD_sound (ok 12) lru_New.scr) 600 (L := []) (leaf_of (fn := Go.Proofs.Try.f9) [] (by kernel_rfl) trivial) (castK h (by kernel_rfl))
/-! ### 20 (*herdsman/lru.Lru).unlink -/
def lru_Lru_unlink.b4 (Q : World → Prop) (l : Option Addr) (s0 : Addr) (w : World) : Prop :=
  LdI .i64 (s0.add 3) w fun x31 =>
  cond (x31 == (-1))
  (LdI .i64 (s0.add 2) w fun x35 =>
  wA l fun p36 =>
  St (p36.add 4) (.int .i64 x35) w fun w0_1 =>
  Q w0_1)
  (wA l fun p39 =>
  LdS (p39.add 1) w.drew fun x41_a x41_n x41_c =>
  LdI .i64 (s0.add 3) w.drew fun x43 =>
  LdI .i64 (s0.add 2) w.drew fun x45 =>
  InB x43 x41_n <|
  wA x41_a fun p =>
  St ((p.add (x43.toNat * 4)).add 2) (.int .i64 x45) w.drew fun w0_2 =>
  Q w0_2)
def lru_Lru_unlink.sh (l : Option Addr) (slot : Int) (w : World) (Q : World → Prop) : Prop :=
  wA l fun p6 =>
  LdS (p6.add 1) w fun x8_a x8_n x8_c =>
  InB slot x8_n <|
  wA x8_a fun p =>
  LdI .i64 ((p.add (slot.toNat * 4)).add 0) w fun x11_key_0 =>
  LdI .i64 ((p.add (slot.toNat * 4)).add 1) w fun x11_key_1 =>
  LdI .i64 ((p.add (slot.toNat * 4)).add 2) w fun x11_newer =>
  LdI .i64 ((p.add (slot.toNat * 4)).add 3) w fun x11_old =>
  Al T 54 w fun s0 w0_1 =>
  St (s0.add 0) (.int .i64 x11_key_0) w0_1 fun w0_2 =>
  St (s0.add 1) (.int .i64 x11_key_1) w0_2 fun w0_3 =>
  St (s0.add 2) (.int .i64 x11_newer) w0_3 fun w0_4 =>
  St (s0.add 3) (.int .i64 x11_old) w0_4 fun w0_5 =>
  LdI .i64 (s0.add 2) w0_5 fun x13 =>
  cond (x13 == (-1))
  (LdI .i64 (s0.add 3) w0_5 fun x17 =>
  wA l fun p18 =>
  St (p18.add 3) (.int .i64 x17) w0_5 fun w0_6 =>
  lru_Lru_unlink.b4 Q l s0 w0_6)
  (wA l fun p21 =>
  LdS (p21.add 1) w0_5.drew fun x23_a x23_n x23_c =>
  LdI .i64 (s0.add 2) w0_5.drew fun x25 =>
  LdI .i64 (s0.add 3) w0_5.drew fun x27 =>
  InB x25 x23_n <|
  wA x23_a fun p_1 =>
  St ((p_1.add (x25.toNat * 4)).add 3) (.int .i64 x27) w0_5.drew fun w0_7 =>
  lru_Lru_unlink.b4 Q l s0 w0_7)
noncomputable def lru_Lru_unlink.scr : Scrs := [(3, .op 0 (.op 1 (.op 2 (.op 3 (.op 4 (.op 5 (.op 6 (.op 7 (.op 8 (.op 9 (.op 10 .done))))))))))), (6, .op 0 (.op 1 (.op 2 (.op 3 (.op 4 (.op 5 (.op 6 (.op 7 (.op 8 (.op 9 (.op 10 .done)))))))))))]
def lru_Lru_unlink.R (Q : World → Prop) (ρ : Env) (w : World) : Prop := evRes (cx 48) Go.Proofs.Try.f20.results.toList ρ w fun vs => lru_Lru_unlink.qv Q (resV vs) w
def lru_Lru_unlink.d4 (K : Option Addr → Addr → Prop) (ρ : Env) : Prop :=
  dP (ρ 0) fun l => dP (ρ 4) fun s_p => wA s_p fun s0 => K l s0
theorem lru_Lru_unlink.d4_elim {K : Option Addr → Addr → Prop} {ρ : Env} (h0 : lru_Lru_unlink.d4 K ρ) : ∃ (l : Option Addr) (s0 : Addr), ρ 0 = .pointer l ∧ ρ 4 = .pointer (some s0) ∧ K l s0 := by
  obtain ⟨l, e0, h1⟩ := dP_elim h0
  obtain ⟨s_p, e4, h2⟩ := dP_elim h1
  obtain ⟨s0, rfl, h3⟩ := wA_elim h2
  exact ⟨l, s0, e0, e4, h3⟩
set_option maxRecDepth 100000 in
theorem lru_Lru_unlink.f4 (Q : World → Prop) : ∀ l s0 w, lru_Lru_unlink.b4 Q l s0 w → ∀ ρ : Env, ρ 0 = .pointer l → ρ 4 = .pointer (some s0) → Fin (cx 48) (todoOf Go.Proofs.Try.f20 4) ρ w (lru_Lru_unlink.R Q) := by
  intro l s0 w h ρ e0 e4
  refine Fin.cut (ρ' := put (put (ρ) (some 0) (.pointer l)) (some 4) (.pointer (some s0))) ?_ (by rw [put_id e0, put_id e4])
  refine evT_sound (ok 48) (drawD_sound (ok 48) lru_Lru_unlink.scr) 600 (L := []) (leaf_of (fn := Go.Proofs.Try.f20) [] (by kernel_rfl) trivial) (castK h (by kernel_rfl))
set_option maxRecDepth 100000 in
theorem lru_Lru_unlink.body (l : Option Addr) (slot : Int) (w : World) (Q : World → Prop) (h : lru_Lru_unlink.sh l slot w Q) : lru_Lru_unlink.call l slot w Q := by
  refine call_fn (ok 48) (fn := Go.Proofs.Try.f20) (args := [.pointer l, .int .i64 slot]) (K := lru_Lru_unlink.qv Q) Go.Proofs.Try.func20 (by kernel_rfl) (by kernel_rfl) (by kernel_rfl) ?_
  refine evT_sound (ok 48) (drawD_sound (ok 48) lru_Lru_unlink.scr) 600 (L := [(4, fun ρ w => lru_Lru_unlink.d4 (fun l s0 => lru_Lru_unlink.b4 Q l s0 w) ρ)]) (leaf_of (fn := Go.Proofs.Try.f20) [4, 4] (by kernel_rfl) ⟨fun ρ w h => by obtain ⟨l, s0, e0, e4, h⟩ := lru_Lru_unlink.d4_elim (ρ := ρ) h; exact lru_Lru_unlink.f4 Q l s0 w h ρ e0 e4, trivial⟩) (castK h (by kernel_rfl))
/-! ### 21 (*herdsman/lru.Lru).link -/
def lru_Lru_link.b4 (Q : World → Prop) (l : Option Addr) (slot : Int) (w : World) : Prop :=
  wA l fun p44 =>
  St (p44.add 3) (.int .i64 slot) w fun w0_1 =>
  Q w0_1
def lru_Lru_link.sh (l : Option Addr) (slot : Int) (w : World) (Q : World → Prop) : Prop :=
  wA l fun p5 =>
  LdS (p5.add 1) w.drew fun x7_a x7_n x7_c =>
  wA l fun p10 =>
  LdS (p10.add 1) w.drew fun x12_a x12_n x12_c =>
  wA l fun p15 =>
  LdI .i64 (p15.add 3) w.drew fun x17 =>
  InB slot x7_n <|
  wA x7_a fun p =>
  St ((p.add (slot.toNat * 4)).add 2) (.int .i64 (-1)) w.drew fun w0_1 =>
  InB slot x12_n <|
  wA x12_a fun p_1 =>
  St ((p_1.add (slot.toNat * 4)).add 3) (.int .i64 x17) w0_1 fun w0_2 =>
  wA l fun p23 =>
  LdI .i64 (p23.add 3) w0_2 fun x25 =>
  cond (x25 == (-1))
  (wA l fun p29 =>
  St (p29.add 4) (.int .i64 slot) w0_2 fun w0_3 =>
  lru_Lru_link.b4 Q l slot w0_3)
  (wA l fun p32 =>
  LdS (p32.add 1) w0_2.drew fun x34_a x34_n x34_c =>
  wA l fun p36 =>
  LdI .i64 (p36.add 3) w0_2.drew fun x38 =>
  InB x38 x34_n <|
  wA x34_a fun p_2 =>
  St ((p_2.add (x38.toNat * 4)).add 2) (.int .i64 slot) w0_2.drew fun w0_4 =>
  lru_Lru_link.b4 Q l slot w0_4)
noncomputable def lru_Lru_link.scr : Scrs := [(0, .op 0 (.op 1 (.op 2 (.op 3 (.op 4 (.op 5 (.op 6 (.op 7 (.op 8 (.op 9 (.op 10 (.op 11 (.op 12 (.op 13 (.op 14 (.op 15 (.op 16 (.op 17 (.op 18 (.op 19 .done)))))))))))))))))))), (3, .op 0 (.op 1 (.op 2 (.op 3 (.op 4 (.op 5 (.op 6 (.op 7 (.op 8 (.op 9 (.op 10 (.op 11 .done))))))))))))]
def lru_Lru_link.R (Q : World → Prop) (ρ : Env) (w : World) : Prop := evRes (cx 46) Go.Proofs.Try.f21.results.toList ρ w fun vs => lru_Lru_link.qv Q (resV vs) w
def lru_Lru_link.d4 (K : Option Addr → Int → Prop) (ρ : Env) : Prop :=
  dP (ρ 0) fun l => dI .i64 (ρ 1) fun slot => K l slot
theorem lru_Lru_link.d4_elim {K : Option Addr → Int → Prop} {ρ : Env} (h0 : lru_Lru_link.d4 K ρ) : ∃ (l : Option Addr) (slot : Int), ρ 0 = .pointer l ∧ ρ 1 = .int .i64 slot ∧ K l slot := by
  obtain ⟨l, e0, h1⟩ := dP_elim h0
  obtain ⟨slot, e1, h2⟩ := dI_elim h1
  exact ⟨l, slot, e0, e1, h2⟩
set_option maxRecDepth 100000 in
theorem lru_Lru_link.f4 (Q : World → Prop) : ∀ l slot w, lru_Lru_link.b4 Q l slot w → ∀ ρ : Env, ρ 0 = .pointer l → ρ 1 = .int .i64 slot → Fin (cx 46) (todoOf Go.Proofs.Try.f21 4) ρ w (lru_Lru_link.R Q) := by
  intro l slot w h ρ e0 e1
  refine Fin.cut (ρ' := put (put (ρ) (some 0) (.pointer l)) (some 1) (.int .i64 slot)) ?_ (by rw [put_id e0, put_id e1])
  refine evT_sound (ok 46) (drawD_sound (ok 46) lru_Lru_link.scr) 600 (L := []) (leaf_of (fn := Go.Proofs.Try.f21) [] (by kernel_rfl) trivial) (castK h (by kernel_rfl))
set_option maxRecDepth 100000 in
theorem lru_Lru_link.body (l : Option Addr) (slot : Int) (w : World) (Q : World → Prop) (h : lru_Lru_link.sh l slot w Q) : lru_Lru_link.call l slot w Q := by
  refine call_fn (ok 46) (fn := Go.Proofs.Try.f21) (args := [.pointer l, .int .i64 slot]) (K := lru_Lru_link.qv Q) Go.Proofs.Try.func21 (by kernel_rfl) (by kernel_rfl) (by kernel_rfl) ?_
  refine evT_sound (ok 46) (drawD_sound (ok 46) lru_Lru_link.scr) 600 (L := [(4, fun ρ w => lru_Lru_link.d4 (fun l slot => lru_Lru_link.b4 Q l slot w) ρ)]) (leaf_of (fn := Go.Proofs.Try.f21) [4, 4] (by kernel_rfl) ⟨fun ρ w h => by obtain ⟨l, slot, e0, e1, h⟩ := lru_Lru_link.d4_elim (ρ := ρ) h; exact lru_Lru_link.f4 Q l slot w h ρ e0 e1, trivial⟩) (castK h (by kernel_rfl))
/-! ### 10 (*herdsman/lru.Lru).Use -/
def lru_Lru_Use.b14 (Q : Int → Bool → Bool → World → Prop) (l : Option Addr) (slot : Int) (had : Bool) (out0 : Bool) (key : Addr) (w : World) : Prop :=
  wA l fun p84 =>
  LdM (p84.add 2) w.drew fun x86 =>
  LdI .i64 (key.add 0) w.drew fun x87_0 =>
  LdI .i64 (key.add 1) w.drew fun x87_1 =>
  RunU P (Instr.mapUpdate 48 (.map x86) (.agg #[.int .i64 x87_0, .int .i64 x87_1]) (.int .i64 slot)) w.drew fun w0_1 =>
  lru_Lru_link.call l slot w0_1 fun w0_2 =>
  Q slot had out0 w0_2
def lru_Lru_Use.sh (l : Option Addr) (a : Int) (b : Int) (w : World) (Q : Int → Bool → Bool → World → Prop) : Prop :=
  cond l.isNone
  (Q (-1) false false w)
  (Al T 29 w fun key w0_1 =>
  St (key.add 0) (.int .i64 a) w0_1 fun w0_2 =>
  St (key.add 1) (.int .i64 b) w0_2 fun w0_3 =>
  wA l fun p17 =>
  LdM (p17.add 2) w0_3.drew fun x19 =>
  LdI .i64 (key.add 0) w0_3.drew fun x20_0 =>
  LdI .i64 (key.add 1) w0_3.drew fun x20_1 =>
  RunK P (Instr.lookup 48 (.map x19) (.agg #[.int .i64 x20_0, .int .i64 x20_1]) true) w0_3.drew fun v w0_4 =>
  dT v fun x21_l =>
  dCons x21_l fun x21_v0 x21_l0 =>
  dI .i64 x21_v0 fun x21_0 =>
  dCons x21_l0 fun x21_v1 x21_l1 =>
  dB x21_v1 fun x21_1 =>
  dNil x21_l1 <|
  cond x21_1
  (lru_Lru_unlink.call l x21_0 w0_4 fun w0_5 =>
  lru_Lru_Use.b14 Q l x21_0 x21_1 false key w0_5)
  (wA l fun p58 =>
  LdS (p58.add 1) w0_4.drew fun x60_a x60_n x60_c =>
  wA l fun p63 =>
  LdI .i64 p63 w0_4.drew fun x65 =>
  cond (decide ((x60_n : Int) < x65))
  (wA l fun p68 =>
  LdS (p68.add 1) w0_4.drew fun x70_a x70_n x70_c =>
  wA l fun p74 =>
  LdS (p74.add 1) w0_4.drew.drew fun x76_a x76_n x76_c =>
  LdI .i64 (key.add 0) w0_4.drew.drew fun x77_0 =>
  LdI .i64 (key.add 1) w0_4.drew.drew fun x77_1 =>
  Bx [.int .i64 x77_0, .int .i64 x77_1, .int .i64 0, .int .i64 0] 54 w0_4.drew.drew fun p79_s w0_6 =>
  w0_6.cell? (p74.add 1) = some (.slice x76_a x76_n x76_c) ∧
  App P #[47, 47] 47 (.slice x76_a x76_n x76_c) (.slice (some p79_s) 1 1) w0_6 fun r80_a r80_n r80_c w0_7 =>
  wA l fun p81 =>
  St (p81.add 1) (.slice r80_a r80_n r80_c) w0_7 fun w0_8 =>
  lru_Lru_Use.b14 Q l (x70_n : Int) x21_1 false key w0_8)
  (wA l fun p25 =>
  LdI .i64 (p25.add 4) w0_4.drew fun x27 =>
  lru_Lru_unlink.call l x27 w0_4.drew fun w0_9 =>
  wA l fun p32 =>
  LdM (p32.add 2) w0_9.drew fun x34 =>
  wA l fun p36 =>
  LdS (p36.add 1) w0_9.drew fun x38_a x38_n x38_c =>
  InB x27 x38_n <|
  wA x38_a fun p =>
  LdI .i64 ((p.add (x27.toNat * 4)).add 0) w0_9.drew fun x42_0 =>
  LdI .i64 ((p.add (x27.toNat * 4)).add 1) w0_9.drew fun x42_1 =>
  RunK P (Builtin.delete_ #[48, 29] 0 [.map x34, .agg #[.int .i64 x42_0, .int .i64 x42_1]].toArray) w0_9.drew fun v_1 w0_10 =>
  wA l fun p44 =>
  LdS (p44.add 1) w0_10.drew fun x46_a x46_n x46_c =>
  LdI .i64 (key.add 0) w0_10.drew fun x48_0 =>
  LdI .i64 (key.add 1) w0_10.drew fun x48_1 =>
  InB x27 x46_n <|
  wA x46_a fun p_1 =>
  St ((p_1.add (x27.toNat * 4)).add 0) (.int .i64 x48_0) w0_10.drew fun w0_11 =>
  St ((p_1.add (x27.toNat * 4)).add 1) (.int .i64 x48_1) w0_11 fun w0_12 =>
  lru_Lru_Use.b14 Q l x27 x21_1 true key w0_12)))
noncomputable def lru_Lru_Use.scr : Scrs := [(4, .op 0 (.op 1 (.op 2 (.op 3 (.op 4 (.op 5 (.op 6 (.op 7 (.op 8 (.op 9 (.op 10 .done))))))))))), (7, .op 0 (.op 1 (.op 2 (.op 3 (.op 4 (.op 5 (.op 6 (.op 7 (.op 8 (.op 9 (.op 10 (.op 11 (.op 12 .done))))))))))))), (8, .op 0 (.op 1 (.op 2 (.op 3 (.op 4 (.op 5 (.op 6 (.op 7 (.op 8 .done))))))))), (11, .op 0 (.op 1 (.op 2 (.op 3 (.op 4 (.op 5 (.op 6 (.op 7 (.op 8 (.op 9 (.op 10 .done))))))))))), (13, .op 0 (.op 1 (.op 2 (.op 3 (.op 4 (.op 5 (.op 6 (.op 7 (.op 8 (.op 9 (.op 10 (.op 11 .done)))))))))))), (14, .op 0 (.op 1 (.op 2 (.op 3 (.op 4 (.op 5 (.op 6 .done)))))))]
def lru_Lru_Use.R (Q : Int → Bool → Bool → World → Prop) (ρ : Env) (w : World) : Prop := evRes (cx 95) Go.Proofs.Try.f10.results.toList ρ w fun vs => lru_Lru_Use.qv Q (resV vs) w
def lru_Lru_Use.d14 (K : Option Addr → Int → Bool → Bool → Addr → Prop) (ρ : Env) : Prop :=
  dP (ρ 0) fun l => dI .i64 (ρ 6) fun slot => dB (ρ 7) fun had => dB (ρ 8) fun out0 => dP (ρ 9) fun key_p => wA key_p fun key => K l slot had out0 key
theorem lru_Lru_Use.d14_elim {K : Option Addr → Int → Bool → Bool → Addr → Prop} {ρ : Env} (h0 : lru_Lru_Use.d14 K ρ) : ∃ (l : Option Addr) (slot : Int) (had : Bool) (out0 : Bool) (key : Addr), ρ 0 = .pointer l ∧ ρ 6 = .int .i64 slot ∧ ρ 7 = .bool had ∧ ρ 8 = .bool out0 ∧ ρ 9 = .pointer (some key) ∧ K l slot had out0 key := by
  obtain ⟨l, e0, h1⟩ := dP_elim h0
  obtain ⟨slot, e6, h2⟩ := dI_elim h1
  obtain ⟨had, e7, h3⟩ := dB_elim h2
  obtain ⟨out0, e8, h4⟩ := dB_elim h3
  obtain ⟨key_p, e9, h5⟩ := dP_elim h4
  obtain ⟨key, rfl, h6⟩ := wA_elim h5
  exact ⟨l, slot, had, out0, key, e0, e6, e7, e8, e9, h6⟩
set_option maxRecDepth 100000 in
theorem lru_Lru_Use.f14 (Q : Int → Bool → Bool → World → Prop) : ∀ l slot had out0 key w, lru_Lru_Use.b14 Q l slot had out0 key w → ∀ ρ : Env, ρ 0 = .pointer l → ρ 6 = .int .i64 slot → ρ 7 = .bool had → ρ 8 = .bool out0 → ρ 9 = .pointer (some key) → Fin (cx 95) (todoOf Go.Proofs.Try.f10 14) ρ w (lru_Lru_Use.R Q) := by
  intro l slot had out0 key w h ρ e0 e6 e7 e8 e9
  refine Fin.cut (ρ' := put (put (put (put (put (ρ) (some 0) (.pointer l)) (some 6) (.int .i64 slot)) (some 7) (.bool had)) (some 8) (.bool out0)) (some 9) (.pointer (some key))) ?_ (by rw [put_id e0, put_id e6, put_id e7, put_id e8, put_id e9])
  refine evT_sound (ok 95) (drawD_sound (ok 95) lru_Lru_Use.scr) 600 (L := []) (leaf_of (fn := Go.Proofs.Try.f10) [] (by kernel_rfl) trivial) (castK h (by kernel_rfl))
set_option maxRecDepth 100000 in
theorem lru_Lru_Use.body (l : Option Addr) (a : Int) (b : Int) (w : World) (Q : Int → Bool → Bool → World → Prop) (h : lru_Lru_Use.sh l a b w Q) : lru_Lru_Use.call l a b w Q := by
  refine call_fn (ok 95) (fn := Go.Proofs.Try.f10) (args := [.pointer l, .int .i64 a, .int .i64 b]) (K := lru_Lru_Use.qv Q) Go.Proofs.Try.func10 (by kernel_rfl) (by kernel_rfl) (by kernel_rfl) ?_
  refine evT_sound (ok 95) (drawD_sound (ok 95) lru_Lru_Use.scr) 600 (L := [(14, fun ρ w => lru_Lru_Use.d14 (fun l slot had out0 key => lru_Lru_Use.b14 Q l slot had out0 key w) ρ)]) (leaf_of (fn := Go.Proofs.Try.f10) [14, 14, 14] (by kernel_rfl) ⟨fun ρ w h => by obtain ⟨l, slot, had, out0, key, e0, e6, e7, e8, e9, h⟩ := lru_Lru_Use.d14_elim (ρ := ρ) h; exact lru_Lru_Use.f14 Q l slot had out0 key w h ρ e0 e6 e7 e8 e9, trivial⟩) (castK h (by kernel_rfl))
/-! ### 12 herdsman/herdsmanref18.SameKeys -/
def herdsmanref18_SameKeys.s4 (Q : Bool → World → Prop) (R4 : Option Addr → Nat → Nat → Option Addr → Nat → Nat → Int → World → Prop) (a_a : Option Addr) (a_n : Nat) (a_c : Nat) (b_a : Option Addr) (b_n : Nat) (b_c : Nat) (i : Int) (w : World) : Prop :=
  cond (decide (i < (a_n : Int)))
  (InB i a_n <|
  wA a_a fun p =>
  LdI .i64 ((p.add (i.toNat * 2)).add 0) w.drew fun x20_0 =>
  LdI .i64 ((p.add (i.toNat * 2)).add 1) w.drew fun x20_1 =>
  InB i b_n <|
  wA b_a fun p_1 =>
  LdI .i64 ((p_1.add (i.toNat * 2)).add 0) w.drew fun x24_0 =>
  LdI .i64 ((p_1.add (i.toNat * 2)).add 1) w.drew fun x24_1 =>
  EqK P .neq 29 (.tmp 20) (.tmp 24) (.agg #[.int .i64 x20_0, .int .i64 x20_1]) (.agg #[.int .i64 x24_0, .int .i64 x24_1]) w.drew fun b w0_1 =>
  cond b
  (Q false w0_1)
  (R4 a_a a_n a_c b_a b_n b_c (IntKind.wrap .i64 (i + 1)) w0_1))
  (Q true w)
def herdsmanref18_SameKeys.b4 (Q : Bool → World → Prop) : Nat → Option Addr → Nat → Nat → Option Addr → Nat → Nat → Int → World → Prop
  | 0, _, _, _, _, _, _, _, _ => False
  | k + 1, a_a, a_n, a_c, b_a, b_n, b_c, i, w => herdsmanref18_SameKeys.s4 Q (herdsmanref18_SameKeys.b4 Q k) a_a a_n a_c b_a b_n b_c i w
def herdsmanref18_SameKeys.sh (a_a : Option Addr) (a_n : Nat) (a_c : Nat) (b_a : Option Addr) (b_n : Nat) (b_c : Nat) (w : World) (Q : Bool → World → Prop) : Prop :=
  cond ((a_n : Int) != (b_n : Int))
  (Q false w)
  (∃ k', herdsmanref18_SameKeys.b4 Q k' a_a a_n a_c b_a b_n b_c 0 w)
noncomputable def herdsmanref18_SameKeys.scr : Scrs := [(6, .op 0 (.op 1 (.op 2 (.op 3 (.op 4 (.op 5 (.op 6 (.op 7 (.op 8 .done)))))))))]
def herdsmanref18_SameKeys.R (Q : Bool → World → Prop) (ρ : Env) (w : World) : Prop := evRes (cx 26) Go.Proofs.Try.f12.results.toList ρ w fun vs => herdsmanref18_SameKeys.qv Q (resV vs) w
def herdsmanref18_SameKeys.d4 (K : Option Addr → Nat → Nat → Option Addr → Nat → Nat → Int → Prop) (ρ : Env) : Prop :=
  dS (ρ 0) fun a_a a_n a_c => dS (ρ 1) fun b_a b_n b_c => dI .i64 (ρ 5) fun i => K a_a a_n a_c b_a b_n b_c i
theorem herdsmanref18_SameKeys.d4_elim {K : Option Addr → Nat → Nat → Option Addr → Nat → Nat → Int → Prop} {ρ : Env} (h0 : herdsmanref18_SameKeys.d4 K ρ) : ∃ (a_a : Option Addr) (a_n : Nat) (a_c : Nat) (b_a : Option Addr) (b_n : Nat) (b_c : Nat) (i : Int), ρ 0 = .slice a_a a_n a_c ∧ ρ 1 = .slice b_a b_n b_c ∧ ρ 5 = .int .i64 i ∧ K a_a a_n a_c b_a b_n b_c i := by
  obtain ⟨a_a, a_n, a_c, e0, h1⟩ := dS_elim h0
  obtain ⟨b_a, b_n, b_c, e1, h2⟩ := dS_elim h1
  obtain ⟨i, e5, h3⟩ := dI_elim h2
  exact ⟨a_a, a_n, a_c, b_a, b_n, b_c, i, e0, e1, e5, h3⟩
set_option maxRecDepth 100000 in
theorem herdsmanref18_SameKeys.f4 (Q : Bool → World → Prop) : ∀ k a_a a_n a_c b_a b_n b_c i w, herdsmanref18_SameKeys.b4 Q k a_a a_n a_c b_a b_n b_c i w → ∀ ρ : Env, ρ 0 = .slice a_a a_n a_c → ρ 1 = .slice b_a b_n b_c → ρ 5 = .int .i64 i → Fin (cx 26) (todoOf Go.Proofs.Try.f12 4) ρ w (herdsmanref18_SameKeys.R Q) := by
  intro k
  induction k with
  | zero => intro a_a a_n a_c b_a b_n b_c i w h; exact h.elim
  | succ k ih =>
    intro a_a a_n a_c b_a b_n b_c i w h ρ e0 e1 e5
    have h : herdsmanref18_SameKeys.s4 Q (herdsmanref18_SameKeys.b4 Q k) a_a a_n a_c b_a b_n b_c i w := h
    refine Fin.cut (ρ' := put (put (put (ρ) (some 0) (.slice a_a a_n a_c)) (some 1) (.slice b_a b_n b_c)) (some 5) (.int .i64 i)) ?_ (by rw [put_id e0, put_id e1, put_id e5])
    refine evT_sound (ok 26) (drawD_sound (ok 26) herdsmanref18_SameKeys.scr) 600 (L := [(4, fun ρ w => herdsmanref18_SameKeys.d4 (fun a_a a_n a_c b_a b_n b_c i => herdsmanref18_SameKeys.b4 Q k a_a a_n a_c b_a b_n b_c i w) ρ)]) (leaf_of (fn := Go.Proofs.Try.f12) [4] (by kernel_rfl) ⟨fun ρ w h => by obtain ⟨a_a, a_n, a_c, b_a, b_n, b_c, i, e0, e1, e5, h⟩ := herdsmanref18_SameKeys.d4_elim (ρ := ρ) h; exact ih a_a a_n a_c b_a b_n b_c i w h ρ e0 e1 e5, trivial⟩) (castK h (by kernel_rfl))
set_option maxRecDepth 100000 in
theorem herdsmanref18_SameKeys.body (a_a : Option Addr) (a_n : Nat) (a_c : Nat) (b_a : Option Addr) (b_n : Nat) (b_c : Nat) (w : World) (Q : Bool → World → Prop) (h : herdsmanref18_SameKeys.sh a_a a_n a_c b_a b_n b_c w Q) : herdsmanref18_SameKeys.call a_a a_n a_c b_a b_n b_c w Q := by
  refine call_fn (ok 26) (fn := Go.Proofs.Try.f12) (args := [.slice a_a a_n a_c, .slice b_a b_n b_c]) (K := herdsmanref18_SameKeys.qv Q) Go.Proofs.Try.func12 (by kernel_rfl) (by kernel_rfl) (by kernel_rfl) ?_
  refine evT_sound (ok 26) (drawD_sound (ok 26) herdsmanref18_SameKeys.scr) 600 (L := [(4, fun ρ w => herdsmanref18_SameKeys.d4 (fun a_a a_n a_c b_a b_n b_c i => ∃ k', herdsmanref18_SameKeys.b4 Q k' a_a a_n a_c b_a b_n b_c i w) ρ)]) (leaf_of (fn := Go.Proofs.Try.f12) [4] (by kernel_rfl) ⟨fun ρ w h => by obtain ⟨a_a, a_n, a_c, b_a, b_n, b_c, i, e0, e1, e5, h⟩ := herdsmanref18_SameKeys.d4_elim (ρ := ρ) h; obtain ⟨k', h⟩ := h; exact herdsmanref18_SameKeys.f4 Q k' a_a a_n a_c b_a b_n b_c i w h ρ e0 e1 e5, trivial⟩) (castK h (by kernel_rfl))
/-! ### 13 (*herdsman/lru.Lru).Keys -/
def lru_Lru_Keys.s5 (Q : Option Addr → Nat → Nat → World → Prop) (R5 : Option Addr → Option Addr → Nat → Nat → Int → World → Prop) (l : Option Addr) (out_a : Option Addr) (out_n : Nat) (out_c : Nat) (slot : Int) (w : World) : Prop :=
  cond (slot != (-1))
  (wA l fun p23 =>
  LdS (p23.add 1) w fun x25_a x25_n x25_c =>
  InB slot x25_n <|
  wA x25_a fun p =>
  LdI .i64 ((p.add (slot.toNat * 4)).add 0) w fun x29_0 =>
  LdI .i64 ((p.add (slot.toNat * 4)).add 1) w fun x29_1 =>
  Bx [.int .i64 x29_0, .int .i64 x29_1] 29 w fun p30_s w0_1 =>
  App P #[26, 26] 26 (.slice out_a out_n out_c) (.slice (some p30_s) 1 1) w0_1 fun r31_a r31_n r31_c w0_2 =>
  wA l fun p14 =>
  LdS (p14.add 1) w0_2 fun x16_a x16_n x16_c =>
  InB slot x16_n <|
  wA x16_a fun p_1 =>
  LdI .i64 ((p_1.add (slot.toNat * 4)).add 3) w0_2 fun x20 =>
  R5 l r31_a r31_n r31_c x20 w0_2)
  (Q out_a out_n out_c w)
def lru_Lru_Keys.b5 (Q : Option Addr → Nat → Nat → World → Prop) : Nat → Option Addr → Option Addr → Nat → Nat → Int → World → Prop
  | 0, _, _, _, _, _, _ => False
  | k + 1, l, out_a, out_n, out_c, slot, w => lru_Lru_Keys.s5 Q (lru_Lru_Keys.b5 Q k) l out_a out_n out_c slot w
def lru_Lru_Keys.sh (l : Option Addr) (w : World) (Q : Option Addr → Nat → Nat → World → Prop) : Prop :=
  cond l.isNone
  (Q none 0 0 w)
  (wA l fun p8 =>
  LdI .i64 (p8.add 3) w fun x10 =>
  ∃ k', lru_Lru_Keys.b5 Q k' l none 0 0 x10 w)
noncomputable def lru_Lru_Keys.scr : Scrs := []
def lru_Lru_Keys.R (Q : Option Addr → Nat → Nat → World → Prop) (ρ : Env) (w : World) : Prop := evRes (cx 33) Go.Proofs.Try.f13.results.toList ρ w fun vs => lru_Lru_Keys.qv Q (resV vs) w
def lru_Lru_Keys.d5 (K : Option Addr → Option Addr → Nat → Nat → Int → Prop) (ρ : Env) : Prop :=
  dP (ρ 0) fun l => dS (ρ 3) fun out_a out_n out_c => dI .i64 (ρ 4) fun slot => K l out_a out_n out_c slot
theorem lru_Lru_Keys.d5_elim {K : Option Addr → Option Addr → Nat → Nat → Int → Prop} {ρ : Env} (h0 : lru_Lru_Keys.d5 K ρ) : ∃ (l : Option Addr) (out_a : Option Addr) (out_n : Nat) (out_c : Nat) (slot : Int), ρ 0 = .pointer l ∧ ρ 3 = .slice out_a out_n out_c ∧ ρ 4 = .int .i64 slot ∧ K l out_a out_n out_c slot := by
  obtain ⟨l, e0, h1⟩ := dP_elim h0
  obtain ⟨out_a, out_n, out_c, e3, h2⟩ := dS_elim h1
  obtain ⟨slot, e4, h3⟩ := dI_elim h2
  exact ⟨l, out_a, out_n, out_c, slot, e0, e3, e4, h3⟩
set_option maxRecDepth 100000 in
theorem lru_Lru_Keys.f5 (Q : Option Addr → Nat → Nat → World → Prop) : ∀ k l out_a out_n out_c slot w, lru_Lru_Keys.b5 Q k l out_a out_n out_c slot w → ∀ ρ : Env, ρ 0 = .pointer l → ρ 3 = .slice out_a out_n out_c → ρ 4 = .int .i64 slot → Fin (cx 33) (todoOf Go.Proofs.Try.f13 5) ρ w (lru_Lru_Keys.R Q) := by
  intro k
  induction k with
  | zero => intro l out_a out_n out_c slot w h; exact h.elim
  | succ k ih =>
    intro l out_a out_n out_c slot w h ρ e0 e3 e4
    have h : lru_Lru_Keys.s5 Q (lru_Lru_Keys.b5 Q k) l out_a out_n out_c slot w := h
    refine Fin.cut (ρ' := put (put (put (ρ) (some 0) (.pointer l)) (some 3) (.slice out_a out_n out_c)) (some 4) (.int .i64 slot)) ?_ (by rw [put_id e0, put_id e3, put_id e4])
    refine evT_sound (ok 33) (drawD_sound (ok 33) lru_Lru_Keys.scr) 600 (L := [(5, fun ρ w => lru_Lru_Keys.d5 (fun l out_a out_n out_c slot => lru_Lru_Keys.b5 Q k l out_a out_n out_c slot w) ρ)]) (leaf_of (fn := Go.Proofs.Try.f13) [5] (by kernel_rfl) ⟨fun ρ w h => by obtain ⟨l, out_a, out_n, out_c, slot, e0, e3, e4, h⟩ := lru_Lru_Keys.d5_elim (ρ := ρ) h; exact ih l out_a out_n out_c slot w h ρ e0 e3 e4, trivial⟩) (castK h (by kernel_rfl))
set_option maxRecDepth 100000 in
theorem lru_Lru_Keys.body (l : Option Addr) (w : World) (Q : Option Addr → Nat → Nat → World → Prop) (h : lru_Lru_Keys.sh l w Q) : lru_Lru_Keys.call l w Q := by
  refine call_fn (ok 33) (fn := Go.Proofs.Try.f13) (args := [.pointer l]) (K := lru_Lru_Keys.qv Q) Go.Proofs.Try.func13 (by kernel_rfl) (by kernel_rfl) (by kernel_rfl) ?_
  refine evT_sound (ok 33) (drawD_sound (ok 33) lru_Lru_Keys.scr) 600 (L := [(5, fun ρ w => lru_Lru_Keys.d5 (fun l out_a out_n out_c slot => ∃ k', lru_Lru_Keys.b5 Q k' l out_a out_n out_c slot w) ρ)]) (leaf_of (fn := Go.Proofs.Try.f13) [5] (by kernel_rfl) ⟨fun ρ w h => by obtain ⟨l, out_a, out_n, out_c, slot, e0, e3, e4, h⟩ := lru_Lru_Keys.d5_elim (ρ := ρ) h; obtain ⟨k', h⟩ := h; exact lru_Lru_Keys.f5 Q k' l out_a out_n out_c slot w h ρ e0 e3 e4, trivial⟩) (castK h (by kernel_rfl))
/-! ### 11 herdsman/herdsmanlaw18.told -/
def herdsmanlaw18_told.sh (w : World) (Q : Bool → World → Prop) : Prop :=
  lru_New.call 2 w fun r5 w0_1 =>
  cond r5.isNone
  (Q false w0_1)
  (lru_Lru_Use.call r5 1 1 w0_1 fun r9_slot r9_had r9_out w0_2 =>
  lru_Lru_Use.call r5 2 2 w0_2 fun r11_slot r11_had r11_out w0_3 =>
  lru_Lru_Use.call r5 1 1 w0_3 fun r13_slot r13_had r13_out w0_4 =>
  lru_Lru_Use.call r5 3 3 w0_4 fun r16_slot r16_had r16_out w0_5 =>
  cond (r16_slot == 1)
  (cond (!r16_had)
  (cond r16_out
  (lru_Lru_Keys.call r5 w0_5 fun r31_a r31_n r31_c w0_6 =>
  Bx [.int .i64 3, .int .i64 3, .int .i64 1, .int .i64 1] 29 w0_6 fun p34_s w0_7 =>
  herdsmanref18_SameKeys.call r31_a r31_n r31_c (some p34_s) 2 2 w0_7 fun r35 w0_8 =>
  Q r35 w0_8)
  (Q false w0_5))
  (Q false w0_5))
  (Q false w0_5))
noncomputable def herdsmanlaw18_told.scr : Scrs := []
def herdsmanlaw18_told.R (Q : Bool → World → Prop) (ρ : Env) (w : World) : Prop := evRes (cx 37) Go.Proofs.Try.f11.results.toList ρ w fun vs => herdsmanlaw18_told.qv Q (resV vs) w
set_option maxRecDepth 100000 in
theorem herdsmanlaw18_told.body (w : World) (Q : Bool → World → Prop) (h : herdsmanlaw18_told.sh w Q) : herdsmanlaw18_told.call w Q := by
  refine call_fn (ok 37) (fn := Go.Proofs.Try.f11) (args := []) (K := herdsmanlaw18_told.qv Q) Go.Proofs.Try.func11 (by kernel_rfl) (by kernel_rfl) (by kernel_rfl) ?_
  refine evT_sound (ok 37) (drawD_sound (ok 37) herdsmanlaw18_told.scr) 600 (L := []) (leaf_of (fn := Go.Proofs.Try.f11) [] (by kernel_rfl) trivial) (castK h (by kernel_rfl))
/-! ### 3 herdsman/herdsmanlaw18.LruLast -/
def herdsmanlaw18_LruLast.s16 (P11 : Option Addr → Nat → Nat → Int → Option Addr → Option Addr → Nat → Nat → Int → World → Prop) (Q : Bool → World → Prop) (R16 : Option Addr → Nat → Nat → Int → Option Addr → Option Addr → Nat → Nat → Int → Addr → Bool → Int → World → Prop) (l_a : Option Addr) (l_n : Nat) (l_c : Nat) (n : Int) (x : Option Addr) (want_a : Option Addr) (want_n : Nat) (want_c : Nat) (i : Int) (key : Addr) (in0 : Bool) (j : Int) (w : World) : Prop :=
  cond (decide (j < (want_n : Int)))
  (cond in0
  (R16 l_a l_n l_c n x want_a want_n want_c i key true (IntKind.wrap .i64 (j + 1)) w.drew)
  (InB j want_n <|
  wA want_a fun p =>
  LdI .i64 ((p.add (j.toNat * 2)).add 0) w.drew fun x67_0 =>
  LdI .i64 ((p.add (j.toNat * 2)).add 1) w.drew fun x67_1 =>
  LdI .i64 (key.add 0) w.drew fun x68_0 =>
  LdI .i64 (key.add 1) w.drew fun x68_1 =>
  EqK P .eql 29 (.tmp 67) (.tmp 68) (.agg #[.int .i64 x67_0, .int .i64 x67_1]) (.agg #[.int .i64 x68_0, .int .i64 x68_1]) w.drew fun b w0_1 =>
  R16 l_a l_n l_c n x want_a want_n want_c i key b (IntKind.wrap .i64 (j + 1)) w0_1))
  (cond (!in0)
  (LdI .i64 (key.add 0) w fun x74_0 =>
  LdI .i64 (key.add 1) w fun x74_1 =>
  Bx [.int .i64 x74_0, .int .i64 x74_1] 29 w fun p75_s w0_2 =>
  App P #[26, 26] 26 (.slice want_a want_n want_c) (.slice (some p75_s) 1 1) w0_2 fun r76_a r76_n r76_c w0_3 =>
  P11 l_a l_n l_c n x r76_a r76_n r76_c (IntKind.wrap .i64 (i - 1)) w0_3)
  (P11 l_a l_n l_c n x want_a want_n want_c (IntKind.wrap .i64 (i - 1)) w))
def herdsmanlaw18_LruLast.b16 (P11 : Option Addr → Nat → Nat → Int → Option Addr → Option Addr → Nat → Nat → Int → World → Prop) (Q : Bool → World → Prop) : Nat → Option Addr → Nat → Nat → Int → Option Addr → Option Addr → Nat → Nat → Int → Addr → Bool → Int → World → Prop
  | 0, _, _, _, _, _, _, _, _, _, _, _, _, _ => False
  | k + 1, l_a, l_n, l_c, n, x, want_a, want_n, want_c, i, key, in0, j, w => herdsmanlaw18_LruLast.s16 P11 Q (herdsmanlaw18_LruLast.b16 P11 Q k) l_a l_n l_c n x want_a want_n want_c i key in0 j w
def herdsmanlaw18_LruLast.b21 (Q : Bool → World → Prop) (x : Option Addr) (want_a : Option Addr) (want_n : Nat) (want_c : Nat) (w : World) : Prop :=
  herdsmanlaw18_told.call w fun r77 w0_1 =>
  cond r77
  (lru_Lru_Keys.call x w0_1 fun r80_a r80_n r80_c w0_2 =>
  herdsmanref18_SameKeys.call r80_a r80_n r80_c want_a want_n want_c w0_2 fun r82 w0_3 =>
  Q r82 w0_3)
  (Q false w0_1)
def herdsmanlaw18_LruLast.s11 (Q : Bool → World → Prop) (R11 : Option Addr → Nat → Nat → Int → Option Addr → Option Addr → Nat → Nat → Int → World → Prop) (l_a : Option Addr) (l_n : Nat) (l_c : Nat) (n : Int) (x : Option Addr) (want_a : Option Addr) (want_n : Nat) (want_c : Nat) (i : Int) (w : World) : Prop :=
  cond (decide (i ≥ 0))
  (cond (decide ((want_n : Int) < n))
  (InB i l_n <|
  wA l_a fun p =>
  LdI .i64 (p.add (i.toNat * 1)) w fun x53 =>
  herdsmanref1_Within.call x53 0 11 w fun r54 w0_1 =>
  Al T 29 w0_1 fun key w0_2 =>
  St (key.add 0) (.int .i64 r54) w0_2 fun w0_3 =>
  St (key.add 1) (.int .i64 7) w0_3 fun w0_4 =>
  ∃ k', herdsmanlaw18_LruLast.b16 R11 Q k' l_a l_n l_c n x want_a want_n want_c i key false 0 w0_4)
  (herdsmanlaw18_LruLast.b21 Q x want_a want_n want_c w))
  (herdsmanlaw18_LruLast.b21 Q x want_a want_n want_c w)
def herdsmanlaw18_LruLast.b11 (Q : Bool → World → Prop) : Nat → Option Addr → Nat → Nat → Int → Option Addr → Option Addr → Nat → Nat → Int → World → Prop
  | 0, _, _, _, _, _, _, _, _, _, _ => False
  | k + 1, l_a, l_n, l_c, n, x, want_a, want_n, want_c, i, w => herdsmanlaw18_LruLast.s11 Q (herdsmanlaw18_LruLast.b11 Q k) l_a l_n l_c n x want_a want_n want_c i w
def herdsmanlaw18_LruLast.b10 (Q : Bool → World → Prop) (l_a : Option Addr) (l_n : Nat) (l_c : Nat) (n : Int) (x : Option Addr) (want_a : Option Addr) (want_n : Nat) (want_c : Nat) (w : World) : Prop :=
  ∃ k', herdsmanlaw18_LruLast.b11 Q k' l_a l_n l_c n x want_a want_n want_c (IntKind.wrap .i64 ((imin (l_n : Int) 100) - 1)) w
def herdsmanlaw18_LruLast.s7 (Q : Bool → World → Prop) (R7 : Option Addr → Nat → Nat → Int → Option Addr → Option Addr → Nat → Nat → Int → World → Prop) (l_a : Option Addr) (l_n : Nat) (l_c : Nat) (n : Int) (x : Option Addr) (want_a : Option Addr) (want_n : Nat) (want_c : Nat) (i : Int) (w : World) : Prop :=
  cond (decide (i < (l_n : Int)))
  (cond (decide (i < 100))
  (InB i l_n <|
  wA l_a fun p =>
  LdI .i64 (p.add (i.toNat * 1)) w fun x33 =>
  herdsmanref1_Within.call x33 0 11 w fun r34 w0_1 =>
  lru_Lru_Use.call x r34 7 w0_1 fun r35_slot r35_had r35_out w0_2 =>
  R7 l_a l_n l_c n x want_a want_n want_c (IntKind.wrap .i64 (i + 1)) w0_2)
  (herdsmanlaw18_LruLast.b10 Q l_a l_n l_c n x want_a want_n want_c w))
  (herdsmanlaw18_LruLast.b10 Q l_a l_n l_c n x want_a want_n want_c w)
def herdsmanlaw18_LruLast.b7 (Q : Bool → World → Prop) : Nat → Option Addr → Nat → Nat → Int → Option Addr → Option Addr → Nat → Nat → Int → World → Prop
  | 0, _, _, _, _, _, _, _, _, _, _ => False
  | k + 1, l_a, l_n, l_c, n, x, want_a, want_n, want_c, i, w => herdsmanlaw18_LruLast.s7 Q (herdsmanlaw18_LruLast.b7 Q k) l_a l_n l_c n x want_a want_n want_c i w
def herdsmanlaw18_LruLast.sh (k0 : Int) (l_a : Option Addr) (l_n : Nat) (l_c : Nat) (w : World) (Q : Bool → World → Prop) : Prop :=
  herdsmanref1_Within.call k0 1 9 w fun r14 w0_1 =>
  lru_New.call r14 w0_1 fun r16 w0_2 =>
  cond r16.isNone
  (Q false w0_2)
  (∃ k', herdsmanlaw18_LruLast.b7 Q k' l_a l_n l_c r14 r16 none 0 0 0 w0_2)
noncomputable def herdsmanlaw18_LruLast.scr : Scrs := [(18, .op 0 (.op 1 (.op 2 (.op 3 (.op 4 (.op 5 (.op 6 (.op 7 (.op 8 (.op 9 .done))))))))))]
def herdsmanlaw18_LruLast.R (Q : Bool → World → Prop) (ρ : Env) (w : World) : Prop := evRes (cx 84) Go.Proofs.Try.f3.results.toList ρ w fun vs => herdsmanlaw18_LruLast.qv Q (resV vs) w
def herdsmanlaw18_LruLast.d7 (K : Option Addr → Nat → Nat → Int → Option Addr → Option Addr → Nat → Nat → Int → Prop) (ρ : Env) : Prop :=
  dS (ρ 1) fun l_a l_n l_c => dI .i64 (ρ 5) fun n => dP (ρ 6) fun x => dS (ρ 7) fun want_a want_n want_c => dI .i64 (ρ 8) fun i => K l_a l_n l_c n x want_a want_n want_c i
theorem herdsmanlaw18_LruLast.d7_elim {K : Option Addr → Nat → Nat → Int → Option Addr → Option Addr → Nat → Nat → Int → Prop} {ρ : Env} (h0 : herdsmanlaw18_LruLast.d7 K ρ) : ∃ (l_a : Option Addr) (l_n : Nat) (l_c : Nat) (n : Int) (x : Option Addr) (want_a : Option Addr) (want_n : Nat) (want_c : Nat) (i : Int), ρ 1 = .slice l_a l_n l_c ∧ ρ 5 = .int .i64 n ∧ ρ 6 = .pointer x ∧ ρ 7 = .slice want_a want_n want_c ∧ ρ 8 = .int .i64 i ∧ K l_a l_n l_c n x want_a want_n want_c i := by
  obtain ⟨l_a, l_n, l_c, e1, h1⟩ := dS_elim h0
  obtain ⟨n, e5, h2⟩ := dI_elim h1
  obtain ⟨x, e6, h3⟩ := dP_elim h2
  obtain ⟨want_a, want_n, want_c, e7, h4⟩ := dS_elim h3
  obtain ⟨i, e8, h5⟩ := dI_elim h4
  exact ⟨l_a, l_n, l_c, n, x, want_a, want_n, want_c, i, e1, e5, e6, e7, e8, h5⟩
def herdsmanlaw18_LruLast.d10 (K : Option Addr → Nat → Nat → Int → Option Addr → Option Addr → Nat → Nat → Prop) (ρ : Env) : Prop :=
  dS (ρ 1) fun l_a l_n l_c => dI .i64 (ρ 5) fun n => dP (ρ 6) fun x => dS (ρ 7) fun want_a want_n want_c => K l_a l_n l_c n x want_a want_n want_c
theorem herdsmanlaw18_LruLast.d10_elim {K : Option Addr → Nat → Nat → Int → Option Addr → Option Addr → Nat → Nat → Prop} {ρ : Env} (h0 : herdsmanlaw18_LruLast.d10 K ρ) : ∃ (l_a : Option Addr) (l_n : Nat) (l_c : Nat) (n : Int) (x : Option Addr) (want_a : Option Addr) (want_n : Nat) (want_c : Nat), ρ 1 = .slice l_a l_n l_c ∧ ρ 5 = .int .i64 n ∧ ρ 6 = .pointer x ∧ ρ 7 = .slice want_a want_n want_c ∧ K l_a l_n l_c n x want_a want_n want_c := by
  obtain ⟨l_a, l_n, l_c, e1, h1⟩ := dS_elim h0
  obtain ⟨n, e5, h2⟩ := dI_elim h1
  obtain ⟨x, e6, h3⟩ := dP_elim h2
  obtain ⟨want_a, want_n, want_c, e7, h4⟩ := dS_elim h3
  exact ⟨l_a, l_n, l_c, n, x, want_a, want_n, want_c, e1, e5, e6, e7, h4⟩
def herdsmanlaw18_LruLast.d11 (K : Option Addr → Nat → Nat → Int → Option Addr → Option Addr → Nat → Nat → Int → Prop) (ρ : Env) : Prop :=
  dS (ρ 1) fun l_a l_n l_c => dI .i64 (ρ 5) fun n => dP (ρ 6) fun x => dS (ρ 7) fun want_a want_n want_c => dI .i64 (ρ 9) fun i => K l_a l_n l_c n x want_a want_n want_c i
theorem herdsmanlaw18_LruLast.d11_elim {K : Option Addr → Nat → Nat → Int → Option Addr → Option Addr → Nat → Nat → Int → Prop} {ρ : Env} (h0 : herdsmanlaw18_LruLast.d11 K ρ) : ∃ (l_a : Option Addr) (l_n : Nat) (l_c : Nat) (n : Int) (x : Option Addr) (want_a : Option Addr) (want_n : Nat) (want_c : Nat) (i : Int), ρ 1 = .slice l_a l_n l_c ∧ ρ 5 = .int .i64 n ∧ ρ 6 = .pointer x ∧ ρ 7 = .slice want_a want_n want_c ∧ ρ 9 = .int .i64 i ∧ K l_a l_n l_c n x want_a want_n want_c i := by
  obtain ⟨l_a, l_n, l_c, e1, h1⟩ := dS_elim h0
  obtain ⟨n, e5, h2⟩ := dI_elim h1
  obtain ⟨x, e6, h3⟩ := dP_elim h2
  obtain ⟨want_a, want_n, want_c, e7, h4⟩ := dS_elim h3
  obtain ⟨i, e9, h5⟩ := dI_elim h4
  exact ⟨l_a, l_n, l_c, n, x, want_a, want_n, want_c, i, e1, e5, e6, e7, e9, h5⟩
def herdsmanlaw18_LruLast.d16 (K : Option Addr → Nat → Nat → Int → Option Addr → Option Addr → Nat → Nat → Int → Addr → Bool → Int → Prop) (ρ : Env) : Prop :=
  dS (ρ 1) fun l_a l_n l_c => dI .i64 (ρ 5) fun n => dP (ρ 6) fun x => dS (ρ 7) fun want_a want_n want_c => dI .i64 (ρ 9) fun i => dP (ρ 10) fun key_p => wA key_p fun key => dB (ρ 11) fun in0 => dI .i64 (ρ 12) fun j => K l_a l_n l_c n x want_a want_n want_c i key in0 j
theorem herdsmanlaw18_LruLast.d16_elim {K : Option Addr → Nat → Nat → Int → Option Addr → Option Addr → Nat → Nat → Int → Addr → Bool → Int → Prop} {ρ : Env} (h0 : herdsmanlaw18_LruLast.d16 K ρ) : ∃ (l_a : Option Addr) (l_n : Nat) (l_c : Nat) (n : Int) (x : Option Addr) (want_a : Option Addr) (want_n : Nat) (want_c : Nat) (i : Int) (key : Addr) (in0 : Bool) (j : Int), ρ 1 = .slice l_a l_n l_c ∧ ρ 5 = .int .i64 n ∧ ρ 6 = .pointer x ∧ ρ 7 = .slice want_a want_n want_c ∧ ρ 9 = .int .i64 i ∧ ρ 10 = .pointer (some key) ∧ ρ 11 = .bool in0 ∧ ρ 12 = .int .i64 j ∧ K l_a l_n l_c n x want_a want_n want_c i key in0 j := by
  obtain ⟨l_a, l_n, l_c, e1, h1⟩ := dS_elim h0
  obtain ⟨n, e5, h2⟩ := dI_elim h1
  obtain ⟨x, e6, h3⟩ := dP_elim h2
  obtain ⟨want_a, want_n, want_c, e7, h4⟩ := dS_elim h3
  obtain ⟨i, e9, h5⟩ := dI_elim h4
  obtain ⟨key_p, e10, h6⟩ := dP_elim h5
  obtain ⟨key, rfl, h7⟩ := wA_elim h6
  obtain ⟨in0, e11, h8⟩ := dB_elim h7
  obtain ⟨j, e12, h9⟩ := dI_elim h8
  exact ⟨l_a, l_n, l_c, n, x, want_a, want_n, want_c, i, key, in0, j, e1, e5, e6, e7, e9, e10, e11, e12, h9⟩
def herdsmanlaw18_LruLast.d21 (K : Option Addr → Option Addr → Nat → Nat → Prop) (ρ : Env) : Prop :=
  dP (ρ 6) fun x => dS (ρ 7) fun want_a want_n want_c => K x want_a want_n want_c
theorem herdsmanlaw18_LruLast.d21_elim {K : Option Addr → Option Addr → Nat → Nat → Prop} {ρ : Env} (h0 : herdsmanlaw18_LruLast.d21 K ρ) : ∃ (x : Option Addr) (want_a : Option Addr) (want_n : Nat) (want_c : Nat), ρ 6 = .pointer x ∧ ρ 7 = .slice want_a want_n want_c ∧ K x want_a want_n want_c := by
  obtain ⟨x, e6, h1⟩ := dP_elim h0
  obtain ⟨want_a, want_n, want_c, e7, h2⟩ := dS_elim h1
  exact ⟨x, want_a, want_n, want_c, e6, e7, h2⟩
set_option maxRecDepth 100000 in
theorem herdsmanlaw18_LruLast.f16 (P11 : Option Addr → Nat → Nat → Int → Option Addr → Option Addr → Nat → Nat → Int → World → Prop) (Q : Bool → World → Prop) (HP11 : ∀ l_a l_n l_c n x want_a want_n want_c i w, P11 l_a l_n l_c n x want_a want_n want_c i w → ∀ ρ : Env, ρ 1 = .slice l_a l_n l_c → ρ 5 = .int .i64 n → ρ 6 = .pointer x → ρ 7 = .slice want_a want_n want_c → ρ 9 = .int .i64 i → Fin (cx 84) (todoOf Go.Proofs.Try.f3 11) ρ w (herdsmanlaw18_LruLast.R Q)) : ∀ k l_a l_n l_c n x want_a want_n want_c i key in0 j w, herdsmanlaw18_LruLast.b16 P11 Q k l_a l_n l_c n x want_a want_n want_c i key in0 j w → ∀ ρ : Env, ρ 1 = .slice l_a l_n l_c → ρ 5 = .int .i64 n → ρ 6 = .pointer x → ρ 7 = .slice want_a want_n want_c → ρ 9 = .int .i64 i → ρ 10 = .pointer (some key) → ρ 11 = .bool in0 → ρ 12 = .int .i64 j → Fin (cx 84) (todoOf Go.Proofs.Try.f3 16) ρ w (herdsmanlaw18_LruLast.R Q) := by
  intro k
  induction k with
  | zero => intro l_a l_n l_c n x want_a want_n want_c i key in0 j w h; exact h.elim
  | succ k ih =>
    intro l_a l_n l_c n x want_a want_n want_c i key in0 j w h ρ e1 e5 e6 e7 e9 e10 e11 e12
    have h : herdsmanlaw18_LruLast.s16 P11 Q (herdsmanlaw18_LruLast.b16 P11 Q k) l_a l_n l_c n x want_a want_n want_c i key in0 j w := h
    refine Fin.cut (ρ' := put (put (put (put (put (put (put (put (ρ) (some 1) (.slice l_a l_n l_c)) (some 5) (.int .i64 n)) (some 6) (.pointer x)) (some 7) (.slice want_a want_n want_c)) (some 9) (.int .i64 i)) (some 10) (.pointer (some key))) (some 11) (.bool in0)) (some 12) (.int .i64 j)) ?_ (by rw [put_id e1, put_id e5, put_id e6, put_id e7, put_id e9, put_id e10, put_id e11, put_id e12])
    refine evT_sound (ok 84) (drawD_sound (ok 84) herdsmanlaw18_LruLast.scr) 600 (L := [(11, fun ρ w => herdsmanlaw18_LruLast.d11 (fun l_a l_n l_c n x want_a want_n want_c i => P11 l_a l_n l_c n x want_a want_n want_c i w) ρ), (16, fun ρ w => herdsmanlaw18_LruLast.d16 (fun l_a l_n l_c n x want_a want_n want_c i key in0 j => herdsmanlaw18_LruLast.b16 P11 Q k l_a l_n l_c n x want_a want_n want_c i key in0 j w) ρ)]) (leaf_of (fn := Go.Proofs.Try.f3) [16, 11, 11] (by kernel_rfl) ⟨fun ρ w h => by obtain ⟨l_a, l_n, l_c, n, x, want_a, want_n, want_c, i, e1, e5, e6, e7, e9, h⟩ := herdsmanlaw18_LruLast.d11_elim (ρ := ρ) h; exact HP11 l_a l_n l_c n x want_a want_n want_c i w h ρ e1 e5 e6 e7 e9, fun ρ w h => by obtain ⟨l_a, l_n, l_c, n, x, want_a, want_n, want_c, i, key, in0, j, e1, e5, e6, e7, e9, e10, e11, e12, h⟩ := herdsmanlaw18_LruLast.d16_elim (ρ := ρ) h; exact ih l_a l_n l_c n x want_a want_n want_c i key in0 j w h ρ e1 e5 e6 e7 e9 e10 e11 e12, trivial⟩) (castK h (by kernel_rfl))
set_option maxRecDepth 100000 in
theorem herdsmanlaw18_LruLast.f21 (Q : Bool → World → Prop) : ∀ x want_a want_n want_c w, herdsmanlaw18_LruLast.b21 Q x want_a want_n want_c w → ∀ ρ : Env, ρ 6 = .pointer x → ρ 7 = .slice want_a want_n want_c → Fin (cx 84) (todoOf Go.Proofs.Try.f3 21) ρ w (herdsmanlaw18_LruLast.R Q) := by
  intro x want_a want_n want_c w h ρ e6 e7
  refine Fin.cut (ρ' := put (put (ρ) (some 6) (.pointer x)) (some 7) (.slice want_a want_n want_c)) ?_ (by rw [put_id e6, put_id e7])
  refine evT_sound (ok 84) (drawD_sound (ok 84) herdsmanlaw18_LruLast.scr) 600 (L := []) (leaf_of (fn := Go.Proofs.Try.f3) [] (by kernel_rfl) trivial) (castK h (by kernel_rfl))
set_option maxRecDepth 100000 in
theorem herdsmanlaw18_LruLast.f11 (Q : Bool → World → Prop) : ∀ k l_a l_n l_c n x want_a want_n want_c i w, herdsmanlaw18_LruLast.b11 Q k l_a l_n l_c n x want_a want_n want_c i w → ∀ ρ : Env, ρ 1 = .slice l_a l_n l_c → ρ 5 = .int .i64 n → ρ 6 = .pointer x → ρ 7 = .slice want_a want_n want_c → ρ 9 = .int .i64 i → Fin (cx 84) (todoOf Go.Proofs.Try.f3 11) ρ w (herdsmanlaw18_LruLast.R Q) := by
  intro k
  induction k with
  | zero => intro l_a l_n l_c n x want_a want_n want_c i w h; exact h.elim
  | succ k ih =>
    intro l_a l_n l_c n x want_a want_n want_c i w h ρ e1 e5 e6 e7 e9
    have h : herdsmanlaw18_LruLast.s11 Q (herdsmanlaw18_LruLast.b11 Q k) l_a l_n l_c n x want_a want_n want_c i w := h
    refine Fin.cut (ρ' := put (put (put (put (put (ρ) (some 1) (.slice l_a l_n l_c)) (some 5) (.int .i64 n)) (some 6) (.pointer x)) (some 7) (.slice want_a want_n want_c)) (some 9) (.int .i64 i)) ?_ (by rw [put_id e1, put_id e5, put_id e6, put_id e7, put_id e9])
    refine evT_sound (ok 84) (drawD_sound (ok 84) herdsmanlaw18_LruLast.scr) 600 (L := [(16, fun ρ w => herdsmanlaw18_LruLast.d16 (fun l_a l_n l_c n x want_a want_n want_c i key in0 j => ∃ k', herdsmanlaw18_LruLast.b16 (herdsmanlaw18_LruLast.b11 Q k) Q k' l_a l_n l_c n x want_a want_n want_c i key in0 j w) ρ), (21, fun ρ w => herdsmanlaw18_LruLast.d21 (fun x want_a want_n want_c => herdsmanlaw18_LruLast.b21 Q x want_a want_n want_c w) ρ)]) (leaf_of (fn := Go.Proofs.Try.f3) [16, 21] (by kernel_rfl) ⟨fun ρ w h => by obtain ⟨l_a, l_n, l_c, n, x, want_a, want_n, want_c, i, key, in0, j, e1, e5, e6, e7, e9, e10, e11, e12, h⟩ := herdsmanlaw18_LruLast.d16_elim (ρ := ρ) h; obtain ⟨k', h⟩ := h; exact herdsmanlaw18_LruLast.f16 (herdsmanlaw18_LruLast.b11 Q k) Q ih k' l_a l_n l_c n x want_a want_n want_c i key in0 j w h ρ e1 e5 e6 e7 e9 e10 e11 e12, fun ρ w h => by obtain ⟨x, want_a, want_n, want_c, e6, e7, h⟩ := herdsmanlaw18_LruLast.d21_elim (ρ := ρ) h; exact herdsmanlaw18_LruLast.f21 Q x want_a want_n want_c w h ρ e6 e7, trivial⟩) (castK h (by kernel_rfl))
set_option maxRecDepth 100000 in
theorem herdsmanlaw18_LruLast.f10 (Q : Bool → World → Prop) : ∀ l_a l_n l_c n x want_a want_n want_c w, herdsmanlaw18_LruLast.b10 Q l_a l_n l_c n x want_a want_n want_c w → ∀ ρ : Env, ρ 1 = .slice l_a l_n l_c → ρ 5 = .int .i64 n → ρ 6 = .pointer x → ρ 7 = .slice want_a want_n want_c → Fin (cx 84) (todoOf Go.Proofs.Try.f3 10) ρ w (herdsmanlaw18_LruLast.R Q) := by
  intro l_a l_n l_c n x want_a want_n want_c w h ρ e1 e5 e6 e7
  refine Fin.cut (ρ' := put (put (put (put (ρ) (some 1) (.slice l_a l_n l_c)) (some 5) (.int .i64 n)) (some 6) (.pointer x)) (some 7) (.slice want_a want_n want_c)) ?_ (by rw [put_id e1, put_id e5, put_id e6, put_id e7])
  refine evT_sound (ok 84) (drawD_sound (ok 84) herdsmanlaw18_LruLast.scr) 600 (L := [(11, fun ρ w => herdsmanlaw18_LruLast.d11 (fun l_a l_n l_c n x want_a want_n want_c i => ∃ k', herdsmanlaw18_LruLast.b11 Q k' l_a l_n l_c n x want_a want_n want_c i w) ρ)]) (leaf_of (fn := Go.Proofs.Try.f3) [11] (by kernel_rfl) ⟨fun ρ w h => by obtain ⟨l_a, l_n, l_c, n, x, want_a, want_n, want_c, i, e1, e5, e6, e7, e9, h⟩ := herdsmanlaw18_LruLast.d11_elim (ρ := ρ) h; obtain ⟨k', h⟩ := h; exact herdsmanlaw18_LruLast.f11 Q k' l_a l_n l_c n x want_a want_n want_c i w h ρ e1 e5 e6 e7 e9, trivial⟩) (castK h (by kernel_rfl))
set_option maxRecDepth 100000 in
theorem herdsmanlaw18_LruLast.f7 (Q : Bool → World → Prop) : ∀ k l_a l_n l_c n x want_a want_n want_c i w, herdsmanlaw18_LruLast.b7 Q k l_a l_n l_c n x want_a want_n want_c i w → ∀ ρ : Env, ρ 1 = .slice l_a l_n l_c → ρ 5 = .int .i64 n → ρ 6 = .pointer x → ρ 7 = .slice want_a want_n want_c → ρ 8 = .int .i64 i → Fin (cx 84) (todoOf Go.Proofs.Try.f3 7) ρ w (herdsmanlaw18_LruLast.R Q) := by
  intro k
  induction k with
  | zero => intro l_a l_n l_c n x want_a want_n want_c i w h; exact h.elim
  | succ k ih =>
    intro l_a l_n l_c n x want_a want_n want_c i w h ρ e1 e5 e6 e7 e8
    have h : herdsmanlaw18_LruLast.s7 Q (herdsmanlaw18_LruLast.b7 Q k) l_a l_n l_c n x want_a want_n want_c i w := h
    refine Fin.cut (ρ' := put (put (put (put (put (ρ) (some 1) (.slice l_a l_n l_c)) (some 5) (.int .i64 n)) (some 6) (.pointer x)) (some 7) (.slice want_a want_n want_c)) (some 8) (.int .i64 i)) ?_ (by rw [put_id e1, put_id e5, put_id e6, put_id e7, put_id e8])
    refine evT_sound (ok 84) (drawD_sound (ok 84) herdsmanlaw18_LruLast.scr) 600 (L := [(7, fun ρ w => herdsmanlaw18_LruLast.d7 (fun l_a l_n l_c n x want_a want_n want_c i => herdsmanlaw18_LruLast.b7 Q k l_a l_n l_c n x want_a want_n want_c i w) ρ), (10, fun ρ w => herdsmanlaw18_LruLast.d10 (fun l_a l_n l_c n x want_a want_n want_c => herdsmanlaw18_LruLast.b10 Q l_a l_n l_c n x want_a want_n want_c w) ρ)]) (leaf_of (fn := Go.Proofs.Try.f3) [7, 10] (by kernel_rfl) ⟨fun ρ w h => by obtain ⟨l_a, l_n, l_c, n, x, want_a, want_n, want_c, i, e1, e5, e6, e7, e8, h⟩ := herdsmanlaw18_LruLast.d7_elim (ρ := ρ) h; exact ih l_a l_n l_c n x want_a want_n want_c i w h ρ e1 e5 e6 e7 e8, fun ρ w h => by obtain ⟨l_a, l_n, l_c, n, x, want_a, want_n, want_c, e1, e5, e6, e7, h⟩ := herdsmanlaw18_LruLast.d10_elim (ρ := ρ) h; exact herdsmanlaw18_LruLast.f10 Q l_a l_n l_c n x want_a want_n want_c w h ρ e1 e5 e6 e7, trivial⟩) (castK h (by kernel_rfl))
set_option maxRecDepth 100000 in
theorem herdsmanlaw18_LruLast.body (k0 : Int) (l_a : Option Addr) (l_n : Nat) (l_c : Nat) (w : World) (Q : Bool → World → Prop) (h : herdsmanlaw18_LruLast.sh k0 l_a l_n l_c w Q) : herdsmanlaw18_LruLast.call k0 l_a l_n l_c w Q := by
  refine call_fn (ok 84) (fn := Go.Proofs.Try.f3) (args := [.int .i64 k0, .slice l_a l_n l_c]) (K := herdsmanlaw18_LruLast.qv Q) Go.Proofs.Try.func3 (by kernel_rfl) (by kernel_rfl) (by kernel_rfl) ?_
  refine evT_sound (ok 84) (drawD_sound (ok 84) herdsmanlaw18_LruLast.scr) 600 (L := [(7, fun ρ w => herdsmanlaw18_LruLast.d7 (fun l_a l_n l_c n x want_a want_n want_c i => ∃ k', herdsmanlaw18_LruLast.b7 Q k' l_a l_n l_c n x want_a want_n want_c i w) ρ)]) (leaf_of (fn := Go.Proofs.Try.f3) [7] (by kernel_rfl) ⟨fun ρ w h => by obtain ⟨l_a, l_n, l_c, n, x, want_a, want_n, want_c, i, e1, e5, e6, e7, e8, h⟩ := herdsmanlaw18_LruLast.d7_elim (ρ := ρ) h; obtain ⟨k', h⟩ := h; exact herdsmanlaw18_LruLast.f7 Q k' l_a l_n l_c n x want_a want_n want_c i w h ρ e1 e5 e6 e7 e8, trivial⟩) (castK h (by kernel_rfl))
/-! ### 15 (*herdsman/lru.Lru).Find -/
def lru_Lru_Find.sh (l : Option Addr) (a : Int) (b : Int) (w : World) (Q : Int → World → Prop) : Prop :=
  cond l.isNone
  (Q (-1) w)
  (wA l fun p13 =>
  LdM (p13.add 2) w fun x15 =>
  RunK P (Instr.lookup 48 (.map x15) (.agg #[.int .i64 a, .int .i64 b]) true) w fun v w0_1 =>
  dT v fun x19_l =>
  dCons x19_l fun x19_v0 x19_l0 =>
  dI .i64 x19_v0 fun x19_0 =>
  dCons x19_l0 fun x19_v1 x19_l1 =>
  dB x19_v1 fun x19_1 =>
  dNil x19_l1 <|
  cond x19_1
  (Q x19_0 w0_1)
  (Q (-1) w0_1))
noncomputable def lru_Lru_Find.scr : Scrs := []
def lru_Lru_Find.R (Q : Int → World → Prop) (ρ : Env) (w : World) : Prop := evRes (cx 24) Go.Proofs.Try.f15.results.toList ρ w fun vs => lru_Lru_Find.qv Q (resV vs) w
set_option maxRecDepth 100000 in
theorem lru_Lru_Find.body (l : Option Addr) (a : Int) (b : Int) (w : World) (Q : Int → World → Prop) (h : lru_Lru_Find.sh l a b w Q) : lru_Lru_Find.call l a b w Q := by
  refine call_fn (ok 24) (fn := Go.Proofs.Try.f15) (args := [.pointer l, .int .i64 a, .int .i64 b]) (K := lru_Lru_Find.qv Q) Go.Proofs.Try.func15 (by kernel_rfl) (by kernel_rfl) (by kernel_rfl) ?_
  refine evT_sound (ok 24) (drawD_sound (ok 24) lru_Lru_Find.scr) 600 (L := []) (leaf_of (fn := Go.Proofs.Try.f15) [] (by kernel_rfl) trivial) (castK h (by kernel_rfl))
/-! ### 16 (*herdsman/herdsmanref18.Lru).Find -/
def herdsmanref18_Lru_Find.s2 (Q : Int → World → Prop) (R2 : Option Addr → Int → Int → Int → World → Prop) (l : Option Addr) (a : Int) (b : Int) (i : Int) (w : World) : Prop :=
  wA l fun p10 =>
  LdS (p10.add 1) w fun x12_a x12_n x12_c =>
  cond (decide (i < (x12_n : Int)))
  (wA l fun p18 =>
  LdS (p18.add 1) w fun x20_a x20_n x20_c =>
  InB i x20_n <|
  wA x20_a fun p =>
  LdI .i64 (p.add (i.toNat * 3)) w fun x24 =>
  cond (x24 == a)
  (wA l fun p29 =>
  LdS (p29.add 1) w fun x31_a x31_n x31_c =>
  InB i x31_n <|
  wA x31_a fun p_1 =>
  LdI .i64 ((p_1.add (i.toNat * 3)).add 1) w fun x35 =>
  cond (x35 == b)
  (wA l fun p40 =>
  LdS (p40.add 1) w fun x42_a x42_n x42_c =>
  InB i x42_n <|
  wA x42_a fun p_2 =>
  LdI .i64 ((p_2.add (i.toNat * 3)).add 2) w fun x46 =>
  Q x46 w)
  (R2 l a b (IntKind.wrap .i64 (i + 1)) w))
  (R2 l a b (IntKind.wrap .i64 (i + 1)) w))
  (Q (-1) w)
def herdsmanref18_Lru_Find.b2 (Q : Int → World → Prop) : Nat → Option Addr → Int → Int → Int → World → Prop
  | 0, _, _, _, _, _ => False
  | k + 1, l, a, b, i, w => herdsmanref18_Lru_Find.s2 Q (herdsmanref18_Lru_Find.b2 Q k) l a b i w
def herdsmanref18_Lru_Find.sh (l : Option Addr) (a : Int) (b : Int) (w : World) (Q : Int → World → Prop) : Prop :=
  ∃ k', herdsmanref18_Lru_Find.b2 Q k' l a b 0 w
noncomputable def herdsmanref18_Lru_Find.scr : Scrs := []
def herdsmanref18_Lru_Find.R (Q : Int → World → Prop) (ρ : Env) (w : World) : Prop := evRes (cx 47) Go.Proofs.Try.f16.results.toList ρ w fun vs => herdsmanref18_Lru_Find.qv Q (resV vs) w
def herdsmanref18_Lru_Find.d2 (K : Option Addr → Int → Int → Int → Prop) (ρ : Env) : Prop :=
  dP (ρ 0) fun l => dI .i64 (ρ 1) fun a => dI .i64 (ρ 2) fun b => dI .i64 (ρ 7) fun i => K l a b i
theorem herdsmanref18_Lru_Find.d2_elim {K : Option Addr → Int → Int → Int → Prop} {ρ : Env} (h0 : herdsmanref18_Lru_Find.d2 K ρ) : ∃ (l : Option Addr) (a : Int) (b : Int) (i : Int), ρ 0 = .pointer l ∧ ρ 1 = .int .i64 a ∧ ρ 2 = .int .i64 b ∧ ρ 7 = .int .i64 i ∧ K l a b i := by
  obtain ⟨l, e0, h1⟩ := dP_elim h0
  obtain ⟨a, e1, h2⟩ := dI_elim h1
  obtain ⟨b, e2, h3⟩ := dI_elim h2
  obtain ⟨i, e7, h4⟩ := dI_elim h3
  exact ⟨l, a, b, i, e0, e1, e2, e7, h4⟩
set_option maxRecDepth 100000 in
theorem herdsmanref18_Lru_Find.f2 (Q : Int → World → Prop) : ∀ k l a b i w, herdsmanref18_Lru_Find.b2 Q k l a b i w → ∀ ρ : Env, ρ 0 = .pointer l → ρ 1 = .int .i64 a → ρ 2 = .int .i64 b → ρ 7 = .int .i64 i → Fin (cx 47) (todoOf Go.Proofs.Try.f16 2) ρ w (herdsmanref18_Lru_Find.R Q) := by
  intro k
  induction k with
  | zero => intro l a b i w h; exact h.elim
  | succ k ih =>
    intro l a b i w h ρ e0 e1 e2 e7
    have h : herdsmanref18_Lru_Find.s2 Q (herdsmanref18_Lru_Find.b2 Q k) l a b i w := h
    refine Fin.cut (ρ' := put (put (put (put (ρ) (some 0) (.pointer l)) (some 1) (.int .i64 a)) (some 2) (.int .i64 b)) (some 7) (.int .i64 i)) ?_ (by rw [put_id e0, put_id e1, put_id e2, put_id e7])
    refine evT_sound (ok 47) (drawD_sound (ok 47) herdsmanref18_Lru_Find.scr) 600 (L := [(2, fun ρ w => herdsmanref18_Lru_Find.d2 (fun l a b i => herdsmanref18_Lru_Find.b2 Q k l a b i w) ρ)]) (leaf_of (fn := Go.Proofs.Try.f16) [2] (by kernel_rfl) ⟨fun ρ w h => by obtain ⟨l, a, b, i, e0, e1, e2, e7, h⟩ := herdsmanref18_Lru_Find.d2_elim (ρ := ρ) h; exact ih l a b i w h ρ e0 e1 e2 e7, trivial⟩) (castK h (by kernel_rfl))
set_option maxRecDepth 100000 in
theorem herdsmanref18_Lru_Find.body (l : Option Addr) (a : Int) (b : Int) (w : World) (Q : Int → World → Prop) (h : herdsmanref18_Lru_Find.sh l a b w Q) : herdsmanref18_Lru_Find.call l a b w Q := by
  refine call_fn (ok 47) (fn := Go.Proofs.Try.f16) (args := [.pointer l, .int .i64 a, .int .i64 b]) (K := herdsmanref18_Lru_Find.qv Q) Go.Proofs.Try.func16 (by kernel_rfl) (by kernel_rfl) (by kernel_rfl) ?_
  refine evT_sound (ok 47) (drawD_sound (ok 47) herdsmanref18_Lru_Find.scr) 600 (L := [(2, fun ρ w => herdsmanref18_Lru_Find.d2 (fun l a b i => ∃ k', herdsmanref18_Lru_Find.b2 Q k' l a b i w) ρ)]) (leaf_of (fn := Go.Proofs.Try.f16) [2] (by kernel_rfl) ⟨fun ρ w h => by obtain ⟨l, a, b, i, e0, e1, e2, e7, h⟩ := herdsmanref18_Lru_Find.d2_elim (ρ := ρ) h; obtain ⟨k', h⟩ := h; exact herdsmanref18_Lru_Find.f2 Q k' l a b i w h ρ e0 e1 e2 e7, trivial⟩) (castK h (by kernel_rfl))
/-! ### 22 (*herdsman/herdsmanref18.Lru).free -/
def herdsmanref18_Lru_free.s5 (P3 : Option Addr → Int → World → Prop) (Q : Int → World → Prop) (R5 : Option Addr → Int → Bool → Int → World → Prop) (l : Option Addr) (s0 : Int) (is : Bool) (i : Int) (w : World) : Prop :=
  wA l fun p10 =>
  LdS (p10.add 1) w fun x12_a x12_n x12_c =>
  cond (decide (i < (x12_n : Int)))
  (cond is
  (wA l fun p20 =>
  LdS (p20.add 1) w fun x22_a x22_n x22_c =>
  InB i x22_n <|
  wA x22_a fun p =>
  LdI .i64 ((p.add (i.toNat * 3)).add 2) w fun x26 =>
  R5 l s0 (x26 != s0) (IntKind.wrap .i64 (i + 1)) w)
  (R5 l s0 false (IntKind.wrap .i64 (i + 1)) w))
  (cond is
  (Q s0 w)
  (P3 l (IntKind.wrap .i64 (s0 + 1)) w))
def herdsmanref18_Lru_free.b5 (P3 : Option Addr → Int → World → Prop) (Q : Int → World → Prop) : Nat → Option Addr → Int → Bool → Int → World → Prop
  | 0, _, _, _, _, _ => False
  | k + 1, l, s0, is, i, w => herdsmanref18_Lru_free.s5 P3 Q (herdsmanref18_Lru_free.b5 P3 Q k) l s0 is i w
def herdsmanref18_Lru_free.s3 (Q : Int → World → Prop) (R3 : Option Addr → Int → World → Prop) (l : Option Addr) (s0 : Int) (w : World) : Prop :=
  ∃ k', herdsmanref18_Lru_free.b5 R3 Q k' l s0 true 0 w
def herdsmanref18_Lru_free.b3 (Q : Int → World → Prop) : Nat → Option Addr → Int → World → Prop
  | 0, _, _, _ => False
  | k + 1, l, s0, w => herdsmanref18_Lru_free.s3 Q (herdsmanref18_Lru_free.b3 Q k) l s0 w
def herdsmanref18_Lru_free.sh (l : Option Addr) (w : World) (Q : Int → World → Prop) : Prop :=
  ∃ k', herdsmanref18_Lru_free.b3 Q k' l 0 w
noncomputable def herdsmanref18_Lru_free.scr : Scrs := []
def herdsmanref18_Lru_free.R (Q : Int → World → Prop) (ρ : Env) (w : World) : Prop := evRes (cx 32) Go.Proofs.Try.f22.results.toList ρ w fun vs => herdsmanref18_Lru_free.qv Q (resV vs) w
def herdsmanref18_Lru_free.d3 (K : Option Addr → Int → Prop) (ρ : Env) : Prop :=
  dP (ρ 0) fun l => dI .i64 (ρ 3) fun s0 => K l s0
theorem herdsmanref18_Lru_free.d3_elim {K : Option Addr → Int → Prop} {ρ : Env} (h0 : herdsmanref18_Lru_free.d3 K ρ) : ∃ (l : Option Addr) (s0 : Int), ρ 0 = .pointer l ∧ ρ 3 = .int .i64 s0 ∧ K l s0 := by
  obtain ⟨l, e0, h1⟩ := dP_elim h0
  obtain ⟨s0, e3, h2⟩ := dI_elim h1
  exact ⟨l, s0, e0, e3, h2⟩
def herdsmanref18_Lru_free.d5 (K : Option Addr → Int → Bool → Int → Prop) (ρ : Env) : Prop :=
  dP (ρ 0) fun l => dI .i64 (ρ 3) fun s0 => dB (ρ 4) fun is => dI .i64 (ρ 5) fun i => K l s0 is i
theorem herdsmanref18_Lru_free.d5_elim {K : Option Addr → Int → Bool → Int → Prop} {ρ : Env} (h0 : herdsmanref18_Lru_free.d5 K ρ) : ∃ (l : Option Addr) (s0 : Int) (is : Bool) (i : Int), ρ 0 = .pointer l ∧ ρ 3 = .int .i64 s0 ∧ ρ 4 = .bool is ∧ ρ 5 = .int .i64 i ∧ K l s0 is i := by
  obtain ⟨l, e0, h1⟩ := dP_elim h0
  obtain ⟨s0, e3, h2⟩ := dI_elim h1
  obtain ⟨is, e4, h3⟩ := dB_elim h2
  obtain ⟨i, e5, h4⟩ := dI_elim h3
  exact ⟨l, s0, is, i, e0, e3, e4, e5, h4⟩
set_option maxRecDepth 100000 in
theorem herdsmanref18_Lru_free.f5 (P3 : Option Addr → Int → World → Prop) (Q : Int → World → Prop) (HP3 : ∀ l s0 w, P3 l s0 w → ∀ ρ : Env, ρ 0 = .pointer l → ρ 3 = .int .i64 s0 → Fin (cx 32) (todoOf Go.Proofs.Try.f22 3) ρ w (herdsmanref18_Lru_free.R Q)) : ∀ k l s0 is i w, herdsmanref18_Lru_free.b5 P3 Q k l s0 is i w → ∀ ρ : Env, ρ 0 = .pointer l → ρ 3 = .int .i64 s0 → ρ 4 = .bool is → ρ 5 = .int .i64 i → Fin (cx 32) (todoOf Go.Proofs.Try.f22 5) ρ w (herdsmanref18_Lru_free.R Q) := by
  intro k
  induction k with
  | zero => intro l s0 is i w h; exact h.elim
  | succ k ih =>
    intro l s0 is i w h ρ e0 e3 e4 e5
    have h : herdsmanref18_Lru_free.s5 P3 Q (herdsmanref18_Lru_free.b5 P3 Q k) l s0 is i w := h
    refine Fin.cut (ρ' := put (put (put (put (ρ) (some 0) (.pointer l)) (some 3) (.int .i64 s0)) (some 4) (.bool is)) (some 5) (.int .i64 i)) ?_ (by rw [put_id e0, put_id e3, put_id e4, put_id e5])
    refine evT_sound (ok 32) (drawD_sound (ok 32) herdsmanref18_Lru_free.scr) 600 (L := [(3, fun ρ w => herdsmanref18_Lru_free.d3 (fun l s0 => P3 l s0 w) ρ), (5, fun ρ w => herdsmanref18_Lru_free.d5 (fun l s0 is i => herdsmanref18_Lru_free.b5 P3 Q k l s0 is i w) ρ)]) (leaf_of (fn := Go.Proofs.Try.f22) [5, 3] (by kernel_rfl) ⟨fun ρ w h => by obtain ⟨l, s0, e0, e3, h⟩ := herdsmanref18_Lru_free.d3_elim (ρ := ρ) h; exact HP3 l s0 w h ρ e0 e3, fun ρ w h => by obtain ⟨l, s0, is, i, e0, e3, e4, e5, h⟩ := herdsmanref18_Lru_free.d5_elim (ρ := ρ) h; exact ih l s0 is i w h ρ e0 e3 e4 e5, trivial⟩) (castK h (by kernel_rfl))
set_option maxRecDepth 100000 in
theorem herdsmanref18_Lru_free.f3 (Q : Int → World → Prop) : ∀ k l s0 w, herdsmanref18_Lru_free.b3 Q k l s0 w → ∀ ρ : Env, ρ 0 = .pointer l → ρ 3 = .int .i64 s0 → Fin (cx 32) (todoOf Go.Proofs.Try.f22 3) ρ w (herdsmanref18_Lru_free.R Q) := by
  intro k
  induction k with
  | zero => intro l s0 w h; exact h.elim
  | succ k ih =>
    intro l s0 w h ρ e0 e3
    have h : herdsmanref18_Lru_free.s3 Q (herdsmanref18_Lru_free.b3 Q k) l s0 w := h
    refine Fin.cut (ρ' := put (put (ρ) (some 0) (.pointer l)) (some 3) (.int .i64 s0)) ?_ (by rw [put_id e0, put_id e3])
    refine evT_sound (ok 32) (drawD_sound (ok 32) herdsmanref18_Lru_free.scr) 600 (L := [(5, fun ρ w => herdsmanref18_Lru_free.d5 (fun l s0 is i => ∃ k', herdsmanref18_Lru_free.b5 (herdsmanref18_Lru_free.b3 Q k) Q k' l s0 is i w) ρ)]) (leaf_of (fn := Go.Proofs.Try.f22) [5] (by kernel_rfl) ⟨fun ρ w h => by obtain ⟨l, s0, is, i, e0, e3, e4, e5, h⟩ := herdsmanref18_Lru_free.d5_elim (ρ := ρ) h; obtain ⟨k', h⟩ := h; exact herdsmanref18_Lru_free.f5 (herdsmanref18_Lru_free.b3 Q k) Q ih k' l s0 is i w h ρ e0 e3 e4 e5, trivial⟩) (castK h (by kernel_rfl))
set_option maxRecDepth 100000 in
theorem herdsmanref18_Lru_free.body (l : Option Addr) (w : World) (Q : Int → World → Prop) (h : herdsmanref18_Lru_free.sh l w Q) : herdsmanref18_Lru_free.call l w Q := by
  refine call_fn (ok 32) (fn := Go.Proofs.Try.f22) (args := [.pointer l]) (K := herdsmanref18_Lru_free.qv Q) Go.Proofs.Try.func22 (by kernel_rfl) (by kernel_rfl) (by kernel_rfl) ?_
  refine evT_sound (ok 32) (drawD_sound (ok 32) herdsmanref18_Lru_free.scr) 600 (L := [(3, fun ρ w => herdsmanref18_Lru_free.d3 (fun l s0 => ∃ k', herdsmanref18_Lru_free.b3 Q k' l s0 w) ρ)]) (leaf_of (fn := Go.Proofs.Try.f22) [3] (by kernel_rfl) ⟨fun ρ w h => by obtain ⟨l, s0, e0, e3, h⟩ := herdsmanref18_Lru_free.d3_elim (ρ := ρ) h; obtain ⟨k', h⟩ := h; exact herdsmanref18_Lru_free.f3 Q k' l s0 w h ρ e0 e3, trivial⟩) (castK h (by kernel_rfl))
end Go.Proofs.Ytfkpabfamfeggaa.S
