/- What the bodies ask, and that a call is no more. Printed by a program of this work (sxgen.py) out of the translation. -/
import Derived.Test.YtbecldlnajlnnaaXT
set_option linter.unusedVariables false
set_option linter.unusedSimpArgs false
namespace Go.Proofs.Ytbecldlnajlnnaa.S
open Go.Sx
/-! ### 16 herdsman/herdsmanref1.Near -/
def herdsmanref1_Near.sh (t_W : Int) (t_H : Int) (t_C_a : Option Addr) (t_C_n : Nat) (t_C_c : Nat) (l : Int) (side : Int) (w : World) (Q : Int → World → Prop) : Prop :=
  Bx [.int .i64 t_W, .int .i64 t_H, .slice t_C_a t_C_n t_C_c] 24 w fun t_b w0_1 =>
  LdI .i64 (t_b.add 0) w0_1 fun x7_W =>
  LdI .i64 (t_b.add 1) w0_1 fun x7_H =>
  LdS (t_b.add 2) w0_1 fun x7_C_a x7_C_n x7_C_c =>
  herdsmanref1_MayTile.call x7_W x7_H x7_C_a x7_C_n x7_C_c w0_1 fun r8 w0_2 =>
  cond (!r8)
  (Q (-1) w0_2)
  (LdS (t_b.add 2) w0_2 fun x13_a x13_n x13_c =>
  herdsmanref1_In.call l 0 (IntKind.wrap .i64 ((x13_n : Int) - 1)) w0_2 fun r16 w0_3 =>
  cond (!r16)
  (Q (-1) w0_3)
  (LdI .i64 t_b w0_3 fun x20 =>
  LdI .i64 (t_b.add 1) w0_3 fun x22 =>
  herdsmanref1_Step.call x20 x22 l side w0_3 fun r25 w0_4 =>
  Q r25 w0_4))
noncomputable def herdsmanref1_Near.scr : Scrs := []
def herdsmanref1_Near.R (Q : Int → World → Prop) (ρ : Env) (w : World) : Prop := evRes (cx 26) Go.Proofs.Try.f16.results.toList ρ w fun vs => herdsmanref1_Near.qv Q (resV vs) w
set_option maxRecDepth 100000 in
theorem herdsmanref1_Near.body (t_W : Int) (t_H : Int) (t_C_a : Option Addr) (t_C_n : Nat) (t_C_c : Nat) (l : Int) (side : Int) (w : World) (Q : Int → World → Prop) (h : herdsmanref1_Near.sh t_W t_H t_C_a t_C_n t_C_c l side w Q) : herdsmanref1_Near.call t_W t_H t_C_a t_C_n t_C_c l side w Q := by
  refine call_fn (ok 26) (fn := Go.Proofs.Try.f16) (args := [.agg #[.int .i64 t_W, .int .i64 t_H, .slice t_C_a t_C_n t_C_c], .int .i64 l, .int .i64 side]) (K := herdsmanref1_Near.qv Q) Go.Proofs.Try.func16 (by kernel_rfl) (by kernel_rfl) (by kernel_rfl) ?_
  refine evT_sound (ok 26) (drawD_sound (ok 26) herdsmanref1_Near.scr) 600 (L := []) (leaf_of (fn := Go.Proofs.Try.f16) [] (by kernel_rfl) trivial) (castK h (by kernel_rfl))
/-! ### 17 herdsman/herdsmanref1.Ints -/
def herdsmanref1_Ints.s4 (Q : Bool → World → Prop) (R4 : Option Addr → Nat → Nat → Option Addr → Nat → Nat → Int → World → Prop) (a_a : Option Addr) (a_n : Nat) (a_c : Nat) (b_a : Option Addr) (b_n : Nat) (b_c : Nat) (i : Int) (w : World) : Prop :=
  cond (decide (i < (a_n : Int)))
  (InB i a_n <|
  wA a_a fun p =>
  LdI .i64 (p.add (i.toNat * 1)) w.drew fun x20 =>
  InB i b_n <|
  wA b_a fun p_1 =>
  LdI .i64 (p_1.add (i.toNat * 1)) w.drew fun x24 =>
  cond (x20 != x24)
  (Q false w.drew)
  (R4 a_a a_n a_c b_a b_n b_c (IntKind.wrap .i64 (i + 1)) w.drew))
  (Q true w)
def herdsmanref1_Ints.b4 (Q : Bool → World → Prop) : Nat → Option Addr → Nat → Nat → Option Addr → Nat → Nat → Int → World → Prop
  | 0, _, _, _, _, _, _, _, _ => False
  | k + 1, a_a, a_n, a_c, b_a, b_n, b_c, i, w => herdsmanref1_Ints.s4 Q (herdsmanref1_Ints.b4 Q k) a_a a_n a_c b_a b_n b_c i w
def herdsmanref1_Ints.sh (a_a : Option Addr) (a_n : Nat) (a_c : Nat) (b_a : Option Addr) (b_n : Nat) (b_c : Nat) (w : World) (Q : Bool → World → Prop) : Prop :=
  cond ((a_n : Int) != (b_n : Int))
  (Q false w)
  (∃ k', herdsmanref1_Ints.b4 Q k' a_a a_n a_c b_a b_n b_c 0 w)
noncomputable def herdsmanref1_Ints.scr : Scrs := [(6, .op 0 (.op 1 (.op 2 (.op 3 (.op 4 (.op 5 (.op 6 (.op 7 (.op 8 .done)))))))))]
def herdsmanref1_Ints.R (Q : Bool → World → Prop) (ρ : Env) (w : World) : Prop := evRes (cx 26) Go.Proofs.Try.f17.results.toList ρ w fun vs => herdsmanref1_Ints.qv Q (resV vs) w
def herdsmanref1_Ints.d4 (K : Option Addr → Nat → Nat → Option Addr → Nat → Nat → Int → Prop) (ρ : Env) : Prop :=
  dS (ρ 0) fun a_a a_n a_c => dS (ρ 1) fun b_a b_n b_c => dI .i64 (ρ 5) fun i => K a_a a_n a_c b_a b_n b_c i
theorem herdsmanref1_Ints.d4_elim {K : Option Addr → Nat → Nat → Option Addr → Nat → Nat → Int → Prop} {ρ : Env} (h0 : herdsmanref1_Ints.d4 K ρ) : ∃ (a_a : Option Addr) (a_n : Nat) (a_c : Nat) (b_a : Option Addr) (b_n : Nat) (b_c : Nat) (i : Int), ρ 0 = .slice a_a a_n a_c ∧ ρ 1 = .slice b_a b_n b_c ∧ ρ 5 = .int .i64 i ∧ K a_a a_n a_c b_a b_n b_c i := by
  obtain ⟨a_a, a_n, a_c, e0, h1⟩ := dS_elim h0
  obtain ⟨b_a, b_n, b_c, e1, h2⟩ := dS_elim h1
  obtain ⟨i, e5, h3⟩ := dI_elim h2
  exact ⟨a_a, a_n, a_c, b_a, b_n, b_c, i, e0, e1, e5, h3⟩
set_option maxRecDepth 100000 in
theorem herdsmanref1_Ints.f4 (Q : Bool → World → Prop) : ∀ k a_a a_n a_c b_a b_n b_c i w, herdsmanref1_Ints.b4 Q k a_a a_n a_c b_a b_n b_c i w → ∀ ρ : Env, ρ 0 = .slice a_a a_n a_c → ρ 1 = .slice b_a b_n b_c → ρ 5 = .int .i64 i → Fin (cx 26) (todoOf Go.Proofs.Try.f17 4) ρ w (herdsmanref1_Ints.R Q) := by
  intro k
  induction k with
  | zero => intro a_a a_n a_c b_a b_n b_c i w h; exact h.elim
  | succ k ih =>
    intro a_a a_n a_c b_a b_n b_c i w h ρ e0 e1 e5
    have h : herdsmanref1_Ints.s4 Q (herdsmanref1_Ints.b4 Q k) a_a a_n a_c b_a b_n b_c i w := h
    refine Fin.cut (ρ' := put (put (put (ρ) (some 0) (.slice a_a a_n a_c)) (some 1) (.slice b_a b_n b_c)) (some 5) (.int .i64 i)) ?_ (by rw [put_id e0, put_id e1, put_id e5])
    refine evT_sound (ok 26) (drawD_sound (ok 26) herdsmanref1_Ints.scr) 600 (L := [(4, fun ρ w => herdsmanref1_Ints.d4 (fun a_a a_n a_c b_a b_n b_c i => herdsmanref1_Ints.b4 Q k a_a a_n a_c b_a b_n b_c i w) ρ)]) (leaf_of (fn := Go.Proofs.Try.f17) [4] (by kernel_rfl) ⟨fun ρ w h => by obtain ⟨a_a, a_n, a_c, b_a, b_n, b_c, i, e0, e1, e5, h⟩ := herdsmanref1_Ints.d4_elim (ρ := ρ) h; exact ih a_a a_n a_c b_a b_n b_c i w h ρ e0 e1 e5, trivial⟩) (castK h (by kernel_rfl))
set_option maxRecDepth 100000 in
theorem herdsmanref1_Ints.body (a_a : Option Addr) (a_n : Nat) (a_c : Nat) (b_a : Option Addr) (b_n : Nat) (b_c : Nat) (w : World) (Q : Bool → World → Prop) (h : herdsmanref1_Ints.sh a_a a_n a_c b_a b_n b_c w Q) : herdsmanref1_Ints.call a_a a_n a_c b_a b_n b_c w Q := by
  refine call_fn (ok 26) (fn := Go.Proofs.Try.f17) (args := [.slice a_a a_n a_c, .slice b_a b_n b_c]) (K := herdsmanref1_Ints.qv Q) Go.Proofs.Try.func17 (by kernel_rfl) (by kernel_rfl) (by kernel_rfl) ?_
  refine evT_sound (ok 26) (drawD_sound (ok 26) herdsmanref1_Ints.scr) 600 (L := [(4, fun ρ w => herdsmanref1_Ints.d4 (fun a_a a_n a_c b_a b_n b_c i => ∃ k', herdsmanref1_Ints.b4 Q k' a_a a_n a_c b_a b_n b_c i w) ρ)]) (leaf_of (fn := Go.Proofs.Try.f17) [4] (by kernel_rfl) ⟨fun ρ w h => by obtain ⟨a_a, a_n, a_c, b_a, b_n, b_c, i, e0, e1, e5, h⟩ := herdsmanref1_Ints.d4_elim (ρ := ρ) h; obtain ⟨k', h⟩ := h; exact herdsmanref1_Ints.f4 Q k' a_a a_n a_c b_a b_n b_c i w h ρ e0 e1 e5, trivial⟩) (castK h (by kernel_rfl))
/-! ### 3 herdsman/herdsmanlaw2.TileAsks -/
def herdsmanlaw2_TileAsks.b16 (Q : Bool → World → Prop) (local0 : Int) (side : Int) (x : Addr) (at0 : Int) (l_a : Option Addr) (l_n : Nat) (l_c : Nat) (w : World) : Prop :=
  herdsmanlaw2_told.call w.drew fun r67 w0_1 =>
  cond r67
  (LdI .i64 (x.add 0) w0_1 fun x69_W =>
  LdI .i64 (x.add 1) w0_1 fun x69_H =>
  LdS (x.add 2) w0_1 fun x69_C_a x69_C_n x69_C_c =>
  LdI .i64 (x.add 0) w0_1 fun x71_W =>
  LdI .i64 (x.add 1) w0_1 fun x71_H =>
  LdS (x.add 2) w0_1 fun x71_C_a x71_C_n x71_C_c =>
  tile_May.call x69_W x69_H x69_C_a x69_C_n x69_C_c w0_1 fun r70 w0_2 =>
  w0_2.cell? (x.add 0) = some (.int .i64 x71_W) ∧
  w0_2.cell? (x.add 1) = some (.int .i64 x71_H) ∧
  w0_2.cell? (x.add 2) = some (.slice x71_C_a x71_C_n x71_C_c) ∧
  herdsmanref1_MayTile.call x71_W x71_H x71_C_a x71_C_n x71_C_c w0_2 fun r72 w0_3 =>
  cond (r70 == r72)
  (LdI .i64 (x.add 0) w0_3 fun x76_W =>
  LdI .i64 (x.add 1) w0_3 fun x76_H =>
  LdS (x.add 2) w0_3 fun x76_C_a x76_C_n x76_C_c =>
  tile_At.call x76_W x76_H x76_C_a x76_C_n x76_C_c local0 w0_3 fun r78 w0_4 =>
  cond (r78 == at0)
  (LdI .i64 (x.add 0) w0_4 fun x83_W =>
  LdI .i64 (x.add 1) w0_4 fun x83_H =>
  LdS (x.add 2) w0_4 fun x83_C_a x83_C_n x83_C_c =>
  LdI .i64 (x.add 0) w0_4 fun x87_W =>
  LdI .i64 (x.add 1) w0_4 fun x87_H =>
  LdS (x.add 2) w0_4 fun x87_C_a x87_C_n x87_C_c =>
  tile_Near.call x83_W x83_H x83_C_a x83_C_n x83_C_c local0 side w0_4 fun r86 w0_5 =>
  w0_5.cell? (x.add 0) = some (.int .i64 x87_W) ∧
  w0_5.cell? (x.add 1) = some (.int .i64 x87_H) ∧
  w0_5.cell? (x.add 2) = some (.slice x87_C_a x87_C_n x87_C_c) ∧
  herdsmanref1_Near.call x87_W x87_H x87_C_a x87_C_n x87_C_c local0 side w0_5 fun r90 w0_6 =>
  cond (r86 == r90)
  (LdI .i64 (x.add 0) w0_6 fun x94_W =>
  LdI .i64 (x.add 1) w0_6 fun x94_H =>
  LdS (x.add 2) w0_6 fun x94_C_a x94_C_n x94_C_c =>
  tile_Open.call x94_W x94_H x94_C_a x94_C_n x94_C_c w0_6 fun r95_a r95_n r95_c w0_7 =>
  herdsmanref1_Ints.call r95_a r95_n r95_c l_a l_n l_c w0_7 fun r97 w0_8 =>
  Q r97 w0_8)
  (Q false w0_6))
  (Q false w0_4))
  (Q false w0_3))
  (Q false w0_1)
def herdsmanlaw2_TileAsks.s12 (Q : Bool → World → Prop) (R12 : Int → Int → Addr → Int → Option Addr → Nat → Nat → Int → World → Prop) (local0 : Int) (side : Int) (x : Addr) (at0 : Int) (l_a : Option Addr) (l_n : Nat) (l_c : Nat) (i : Int) (w : World) : Prop :=
  LdS (x.add 2) w fun x52_a x52_n x52_c =>
  cond (decide (i < (x52_n : Int)))
  (LdS (x.add 2) w fun x58_a x58_n x58_c =>
  InB i x58_n <|
  wA x58_a fun p =>
  LdI .u8 (p.add (i.toNat * 1)) w fun x61 =>
  cond (x61 != 255)
  (Bx [.int .i64 i] 3 w fun p65_s w0_1 =>
  App P #[28, 28] 28 (.slice l_a l_n l_c) (.slice (some p65_s) 1 1) w0_1 fun r66_a r66_n r66_c w0_2 =>
  R12 local0 side x at0 r66_a r66_n r66_c (IntKind.wrap .i64 (i + 1)) w0_2)
  (R12 local0 side x at0 l_a l_n l_c (IntKind.wrap .i64 (i + 1)) w))
  (herdsmanlaw2_TileAsks.b16 Q local0 side x at0 l_a l_n l_c w)
def herdsmanlaw2_TileAsks.b12 (Q : Bool → World → Prop) : Nat → Int → Int → Addr → Int → Option Addr → Nat → Nat → Int → World → Prop
  | 0, _, _, _, _, _, _, _, _, _ => False
  | k + 1, local0, side, x, at0, l_a, l_n, l_c, i, w => herdsmanlaw2_TileAsks.s12 Q (herdsmanlaw2_TileAsks.b12 Q k) local0 side x at0 l_a l_n l_c i w
def herdsmanlaw2_TileAsks.b6 (Q : Bool → World → Prop) (local0 : Int) (side : Int) (x : Addr) (w : World) : Prop :=
  LdI .i64 (x.add 0) w fun x36_W =>
  LdI .i64 (x.add 1) w fun x36_H =>
  LdS (x.add 2) w fun x36_C_a x36_C_n x36_C_c =>
  herdsmanref1_MayTile.call x36_W x36_H x36_C_a x36_C_n x36_C_c w fun r37 w0_1 =>
  cond r37
  (LdS (x.add 2) w0_1 fun x40_a x40_n x40_c =>
  herdsmanref1_In.call local0 0 (IntKind.wrap .i64 ((x40_n : Int) - 1)) w0_1 fun r43 w0_2 =>
  cond r43
  (LdS (x.add 2) w0_2 fun x45_a x45_n x45_c =>
  InB local0 x45_n <|
  wA x45_a fun p =>
  LdI .u8 (p.add (local0.toNat * 1)) w0_2 fun x48 =>
  ∃ k', herdsmanlaw2_TileAsks.b12 Q k' local0 side x (IntKind.wrap .i64 x48) none 0 0 0 w0_2)
  (∃ k', herdsmanlaw2_TileAsks.b12 Q k' local0 side x 0 none 0 0 0 w0_2))
  (herdsmanlaw2_TileAsks.b16 Q local0 side x 0 none 0 0 w0_1)
def herdsmanlaw2_TileAsks.sh (t_W : Int) (t_H : Int) (t_C_a : Option Addr) (t_C_n : Nat) (t_C_c : Nat) (w0_1 : Int) (h0 : Int) (local0 : Int) (side : Int) (raw : Bool) (w : World) (Q : Bool → World → Prop) : Prop :=
  Bx [.int .i64 t_W, .int .i64 t_H, .slice t_C_a t_C_n t_C_c] 24 w fun t_b w0_2 =>
  LdS (t_b.add 2) w0_2 fun x18_a x18_n x18_c =>
  cond (decide ((x18_n : Int) > 600))
  (herdsmanlaw2_told.call w0_2 fun r21 w0_3 =>
  Q r21 w0_3)
  (LdI .i64 (t_b.add 0) w0_2 fun x22_W =>
  LdI .i64 (t_b.add 1) w0_2 fun x22_H =>
  LdS (t_b.add 2) w0_2 fun x22_C_a x22_C_n x22_C_c =>
  herdsmanlaw2_near.call x22_W x22_H x22_C_a x22_C_n x22_C_c w0_1 h0 raw w0_2 fun r26_0 r26_1 r26_2_a r26_2_n r26_2_c w0_4 =>
  Al T 24 w0_4 fun x w0_5 =>
  St (x.add 0) (.int .i64 r26_0) w0_5 fun w0_6 =>
  St (x.add 1) (.int .i64 r26_1) w0_6 fun w0_7 =>
  St (x.add 2) (.slice r26_2_a r26_2_n r26_2_c) w0_7 fun w0_8 =>
  cond (!raw)
  (LdS (x.add 2) w0_8 fun x31_a x31_n x31_c =>
  herdsmanref1_Within.call local0 (-1) (x31_n : Int) w0_8 fun r33 w0_9 =>
  herdsmanref1_Within.call side (-1) 6 w0_9 fun r35 w0_10 =>
  herdsmanlaw2_TileAsks.b6 Q r33 r35 x w0_10)
  (herdsmanlaw2_TileAsks.b6 Q local0 side x w0_8))
noncomputable def herdsmanlaw2_TileAsks.scr : Scrs := [(16, .op 0 (.op 1 (.op 2 (.op 4 (.op 3 (.op 5 (.op 6 (.op 7 (.op 8 (.op 9 (.op 10 (.op 12 (.op 11 (.op 13 (.op 14 (.op 15 (.op 16 (.op 17 (.op 18 (.op 20 (.op 21 (.op 22 (.op 19 (.op 23 (.op 24 (.op 25 (.op 26 (.op 27 (.op 29 (.op 28 (.op 30 (.op 31 (.op 32 .done)))))))))))))))))))))))))))))))))]
def herdsmanlaw2_TileAsks.R (Q : Bool → World → Prop) (ρ : Env) (w : World) : Prop := evRes (cx 99) Go.Proofs.Try.f3.results.toList ρ w fun vs => herdsmanlaw2_TileAsks.qv Q (resV vs) w
def herdsmanlaw2_TileAsks.d6 (K : Int → Int → Addr → Prop) (ρ : Env) : Prop :=
  dI .i64 (ρ 3) fun local0 => dI .i64 (ρ 4) fun side => dP (ρ 13) fun x_p => wA x_p fun x => K local0 side x
theorem herdsmanlaw2_TileAsks.d6_elim {K : Int → Int → Addr → Prop} {ρ : Env} (h0 : herdsmanlaw2_TileAsks.d6 K ρ) : ∃ (local0 : Int) (side : Int) (x : Addr), ρ 3 = .int .i64 local0 ∧ ρ 4 = .int .i64 side ∧ ρ 13 = .pointer (some x) ∧ K local0 side x := by
  obtain ⟨local0, e3, h1⟩ := dI_elim h0
  obtain ⟨side, e4, h2⟩ := dI_elim h1
  obtain ⟨x_p, e13, h3⟩ := dP_elim h2
  obtain ⟨x, rfl, h4⟩ := wA_elim h3
  exact ⟨local0, side, x, e3, e4, e13, h4⟩
def herdsmanlaw2_TileAsks.d12 (K : Int → Int → Addr → Int → Option Addr → Nat → Nat → Int → Prop) (ρ : Env) : Prop :=
  dI .i64 (ρ 3) fun local0 => dI .i64 (ρ 4) fun side => dP (ρ 13) fun x_p => wA x_p fun x => dI .i64 (ρ 14) fun at0 => dS (ρ 15) fun l_a l_n l_c => dI .i64 (ρ 16) fun i => K local0 side x at0 l_a l_n l_c i
theorem herdsmanlaw2_TileAsks.d12_elim {K : Int → Int → Addr → Int → Option Addr → Nat → Nat → Int → Prop} {ρ : Env} (h0 : herdsmanlaw2_TileAsks.d12 K ρ) : ∃ (local0 : Int) (side : Int) (x : Addr) (at0 : Int) (l_a : Option Addr) (l_n : Nat) (l_c : Nat) (i : Int), ρ 3 = .int .i64 local0 ∧ ρ 4 = .int .i64 side ∧ ρ 13 = .pointer (some x) ∧ ρ 14 = .int .i64 at0 ∧ ρ 15 = .slice l_a l_n l_c ∧ ρ 16 = .int .i64 i ∧ K local0 side x at0 l_a l_n l_c i := by
  obtain ⟨local0, e3, h1⟩ := dI_elim h0
  obtain ⟨side, e4, h2⟩ := dI_elim h1
  obtain ⟨x_p, e13, h3⟩ := dP_elim h2
  obtain ⟨x, rfl, h4⟩ := wA_elim h3
  obtain ⟨at0, e14, h5⟩ := dI_elim h4
  obtain ⟨l_a, l_n, l_c, e15, h6⟩ := dS_elim h5
  obtain ⟨i, e16, h7⟩ := dI_elim h6
  exact ⟨local0, side, x, at0, l_a, l_n, l_c, i, e3, e4, e13, e14, e15, e16, h7⟩
def herdsmanlaw2_TileAsks.d16 (K : Int → Int → Addr → Int → Option Addr → Nat → Nat → Prop) (ρ : Env) : Prop :=
  dI .i64 (ρ 3) fun local0 => dI .i64 (ρ 4) fun side => dP (ρ 13) fun x_p => wA x_p fun x => dI .i64 (ρ 14) fun at0 => dS (ρ 15) fun l_a l_n l_c => K local0 side x at0 l_a l_n l_c
theorem herdsmanlaw2_TileAsks.d16_elim {K : Int → Int → Addr → Int → Option Addr → Nat → Nat → Prop} {ρ : Env} (h0 : herdsmanlaw2_TileAsks.d16 K ρ) : ∃ (local0 : Int) (side : Int) (x : Addr) (at0 : Int) (l_a : Option Addr) (l_n : Nat) (l_c : Nat), ρ 3 = .int .i64 local0 ∧ ρ 4 = .int .i64 side ∧ ρ 13 = .pointer (some x) ∧ ρ 14 = .int .i64 at0 ∧ ρ 15 = .slice l_a l_n l_c ∧ K local0 side x at0 l_a l_n l_c := by
  obtain ⟨local0, e3, h1⟩ := dI_elim h0
  obtain ⟨side, e4, h2⟩ := dI_elim h1
  obtain ⟨x_p, e13, h3⟩ := dP_elim h2
  obtain ⟨x, rfl, h4⟩ := wA_elim h3
  obtain ⟨at0, e14, h5⟩ := dI_elim h4
  obtain ⟨l_a, l_n, l_c, e15, h6⟩ := dS_elim h5
  exact ⟨local0, side, x, at0, l_a, l_n, l_c, e3, e4, e13, e14, e15, h6⟩
set_option maxRecDepth 100000 in
theorem herdsmanlaw2_TileAsks.f16 (Q : Bool → World → Prop) : ∀ local0 side x at0 l_a l_n l_c w, herdsmanlaw2_TileAsks.b16 Q local0 side x at0 l_a l_n l_c w → ∀ ρ : Env, ρ 3 = .int .i64 local0 → ρ 4 = .int .i64 side → ρ 13 = .pointer (some x) → ρ 14 = .int .i64 at0 → ρ 15 = .slice l_a l_n l_c → Fin (cx 99) (todoOf Go.Proofs.Try.f3 16) ρ w (herdsmanlaw2_TileAsks.R Q) := by
  intro local0 side x at0 l_a l_n l_c w h ρ e3 e4 e13 e14 e15
  refine Fin.cut (ρ' := put (put (put (put (put (ρ) (some 3) (.int .i64 local0)) (some 4) (.int .i64 side)) (some 13) (.pointer (some x))) (some 14) (.int .i64 at0)) (some 15) (.slice l_a l_n l_c)) ?_ (by rw [put_id e3, put_id e4, put_id e13, put_id e14, put_id e15])
  refine evT_sound (ok 99) (drawD_sound (ok 99) herdsmanlaw2_TileAsks.scr) 600 (L := []) (leaf_of (fn := Go.Proofs.Try.f3) [] (by kernel_rfl) trivial) (castK h (by kernel_rfl))
set_option maxRecDepth 100000 in
theorem herdsmanlaw2_TileAsks.f12 (Q : Bool → World → Prop) : ∀ k local0 side x at0 l_a l_n l_c i w, herdsmanlaw2_TileAsks.b12 Q k local0 side x at0 l_a l_n l_c i w → ∀ ρ : Env, ρ 3 = .int .i64 local0 → ρ 4 = .int .i64 side → ρ 13 = .pointer (some x) → ρ 14 = .int .i64 at0 → ρ 15 = .slice l_a l_n l_c → ρ 16 = .int .i64 i → Fin (cx 99) (todoOf Go.Proofs.Try.f3 12) ρ w (herdsmanlaw2_TileAsks.R Q) := by
  intro k
  induction k with
  | zero => intro local0 side x at0 l_a l_n l_c i w h; exact h.elim
  | succ k ih =>
    intro local0 side x at0 l_a l_n l_c i w h ρ e3 e4 e13 e14 e15 e16
    have h : herdsmanlaw2_TileAsks.s12 Q (herdsmanlaw2_TileAsks.b12 Q k) local0 side x at0 l_a l_n l_c i w := h
    refine Fin.cut (ρ' := put (put (put (put (put (put (ρ) (some 3) (.int .i64 local0)) (some 4) (.int .i64 side)) (some 13) (.pointer (some x))) (some 14) (.int .i64 at0)) (some 15) (.slice l_a l_n l_c)) (some 16) (.int .i64 i)) ?_ (by rw [put_id e3, put_id e4, put_id e13, put_id e14, put_id e15, put_id e16])
    refine evT_sound (ok 99) (drawD_sound (ok 99) herdsmanlaw2_TileAsks.scr) 600 (L := [(12, fun ρ w => herdsmanlaw2_TileAsks.d12 (fun local0 side x at0 l_a l_n l_c i => herdsmanlaw2_TileAsks.b12 Q k local0 side x at0 l_a l_n l_c i w) ρ), (16, fun ρ w => herdsmanlaw2_TileAsks.d16 (fun local0 side x at0 l_a l_n l_c => herdsmanlaw2_TileAsks.b16 Q local0 side x at0 l_a l_n l_c w) ρ)]) (leaf_of (fn := Go.Proofs.Try.f3) [12, 12, 16] (by kernel_rfl) ⟨fun ρ w h => by obtain ⟨local0, side, x, at0, l_a, l_n, l_c, i, e3, e4, e13, e14, e15, e16, h⟩ := herdsmanlaw2_TileAsks.d12_elim (ρ := ρ) h; exact ih local0 side x at0 l_a l_n l_c i w h ρ e3 e4 e13 e14 e15 e16, fun ρ w h => by obtain ⟨local0, side, x, at0, l_a, l_n, l_c, e3, e4, e13, e14, e15, h⟩ := herdsmanlaw2_TileAsks.d16_elim (ρ := ρ) h; exact herdsmanlaw2_TileAsks.f16 Q local0 side x at0 l_a l_n l_c w h ρ e3 e4 e13 e14 e15, trivial⟩) (castK h (by kernel_rfl))
set_option maxRecDepth 100000 in
theorem herdsmanlaw2_TileAsks.f6 (Q : Bool → World → Prop) : ∀ local0 side x w, herdsmanlaw2_TileAsks.b6 Q local0 side x w → ∀ ρ : Env, ρ 3 = .int .i64 local0 → ρ 4 = .int .i64 side → ρ 13 = .pointer (some x) → Fin (cx 99) (todoOf Go.Proofs.Try.f3 6) ρ w (herdsmanlaw2_TileAsks.R Q) := by
  intro local0 side x w h ρ e3 e4 e13
  refine Fin.cut (ρ' := put (put (put (ρ) (some 3) (.int .i64 local0)) (some 4) (.int .i64 side)) (some 13) (.pointer (some x))) ?_ (by rw [put_id e3, put_id e4, put_id e13])
  refine evT_sound (ok 99) (drawD_sound (ok 99) herdsmanlaw2_TileAsks.scr) 600 (L := [(12, fun ρ w => herdsmanlaw2_TileAsks.d12 (fun local0 side x at0 l_a l_n l_c i => ∃ k', herdsmanlaw2_TileAsks.b12 Q k' local0 side x at0 l_a l_n l_c i w) ρ), (16, fun ρ w => herdsmanlaw2_TileAsks.d16 (fun local0 side x at0 l_a l_n l_c => herdsmanlaw2_TileAsks.b16 Q local0 side x at0 l_a l_n l_c w) ρ)]) (leaf_of (fn := Go.Proofs.Try.f3) [12, 12, 16] (by kernel_rfl) ⟨fun ρ w h => by obtain ⟨local0, side, x, at0, l_a, l_n, l_c, i, e3, e4, e13, e14, e15, e16, h⟩ := herdsmanlaw2_TileAsks.d12_elim (ρ := ρ) h; obtain ⟨k', h⟩ := h; exact herdsmanlaw2_TileAsks.f12 Q k' local0 side x at0 l_a l_n l_c i w h ρ e3 e4 e13 e14 e15 e16, fun ρ w h => by obtain ⟨local0, side, x, at0, l_a, l_n, l_c, e3, e4, e13, e14, e15, h⟩ := herdsmanlaw2_TileAsks.d16_elim (ρ := ρ) h; exact herdsmanlaw2_TileAsks.f16 Q local0 side x at0 l_a l_n l_c w h ρ e3 e4 e13 e14 e15, trivial⟩) (castK h (by kernel_rfl))
set_option maxRecDepth 100000 in
theorem herdsmanlaw2_TileAsks.body (t_W : Int) (t_H : Int) (t_C_a : Option Addr) (t_C_n : Nat) (t_C_c : Nat) (w0_1 : Int) (h0 : Int) (local0 : Int) (side : Int) (raw : Bool) (w : World) (Q : Bool → World → Prop) (h : herdsmanlaw2_TileAsks.sh t_W t_H t_C_a t_C_n t_C_c w0_1 h0 local0 side raw w Q) : herdsmanlaw2_TileAsks.call t_W t_H t_C_a t_C_n t_C_c w0_1 h0 local0 side raw w Q := by
  refine call_fn (ok 99) (fn := Go.Proofs.Try.f3) (args := [.agg #[.int .i64 t_W, .int .i64 t_H, .slice t_C_a t_C_n t_C_c], .int .i64 w0_1, .int .i64 h0, .int .i64 local0, .int .i64 side, .bool raw]) (K := herdsmanlaw2_TileAsks.qv Q) Go.Proofs.Try.func3 (by kernel_rfl) (by kernel_rfl) (by kernel_rfl) ?_
  refine evT_sound (ok 99) (drawD_sound (ok 99) herdsmanlaw2_TileAsks.scr) 600 (L := [(6, fun ρ w => herdsmanlaw2_TileAsks.d6 (fun local0 side x => herdsmanlaw2_TileAsks.b6 Q local0 side x w) ρ)]) (leaf_of (fn := Go.Proofs.Try.f3) [6, 6] (by kernel_rfl) ⟨fun ρ w h => by obtain ⟨local0, side, x, e3, e4, e13, h⟩ := herdsmanlaw2_TileAsks.d6_elim (ρ := ρ) h; exact herdsmanlaw2_TileAsks.f6 Q local0 side x w h ρ e3 e4 e13, trivial⟩) (castK h (by kernel_rfl))
/-! ### 4 herdsman/herdsmanlaw2.TileMates -/
def herdsmanlaw2_TileMates.s6 (Q : Bool → World → Prop) (R6 : Addr → Int → Addr → Addr → Int → World → Prop) (t : Addr) (l : Int) (back : Addr) (edge : Addr) (side : Int) (w : World) : Prop :=
  cond (decide (side ≤ 3))
  (LdI .i64 (t.add 0) w fun x56_W =>
  LdI .i64 (t.add 1) w fun x56_H =>
  LdS (t.add 2) w fun x56_C_a x56_C_n x56_C_c =>
  tile_Near.call x56_W x56_H x56_C_a x56_C_n x56_C_c l side w fun r59 w0_1 =>
  InB side 4 <|
  LdB (edge.add (side.toNat * 1)) w0_1.drew fun x64 =>
  cond (!((decide (r59 < 0)) == x64))
  (Q false w0_1.drew)
  (cond (decide (r59 ≥ 0))
  (LdI .i64 (t.add 0) w0_1.drew fun x70_W =>
  LdI .i64 (t.add 1) w0_1.drew fun x70_H =>
  LdS (t.add 2) w0_1.drew fun x70_C_a x70_C_n x70_C_c =>
  InB side 4 <|
  LdI .i64 (back.add (side.toNat * 1)) w0_1.drew fun x74 =>
  tile_Near.call x70_W x70_H x70_C_a x70_C_n x70_C_c r59 x74 w0_1.drew fun r75 w0_2 =>
  cond (r75 != l)
  (Q false w0_2)
  (R6 t l back edge (IntKind.wrap .i64 (side + 1)) w0_2))
  (R6 t l back edge (IntKind.wrap .i64 (side + 1)) w0_1.drew)))
  (herdsmanlaw2_told.call w fun r80 w0_3 =>
  cond r80
  (LdI .i64 (t.add 0) w0_3 fun x82_W =>
  LdI .i64 (t.add 1) w0_3 fun x82_H =>
  LdS (t.add 2) w0_3 fun x82_C_a x82_C_n x82_C_c =>
  tile_Near.call x82_W x82_H x82_C_a x82_C_n x82_C_c l 4 w0_3 fun r84 w0_4 =>
  cond (r84 == l)
  (LdI .i64 (t.add 0) w0_4 fun x89_W =>
  LdI .i64 (t.add 1) w0_4 fun x89_H =>
  LdS (t.add 2) w0_4 fun x89_C_a x89_C_n x89_C_c =>
  tile_Near.call x89_W x89_H x89_C_a x89_C_n x89_C_c l 5 w0_4 fun r91 w0_5 =>
  Q (r91 == (-1)) w0_5)
  (Q false w0_4))
  (Q false w0_3))
def herdsmanlaw2_TileMates.b6 (Q : Bool → World → Prop) : Nat → Addr → Int → Addr → Addr → Int → World → Prop
  | 0, _, _, _, _, _, _ => False
  | k + 1, t, l, back, edge, side, w => herdsmanlaw2_TileMates.s6 Q (herdsmanlaw2_TileMates.b6 Q k) t l back edge side w
def herdsmanlaw2_TileMates.sh (c_a : Option Addr) (c_n : Nat) (c_c : Nat) (w0_1 : Int) (h0 : Int) (local0 : Int) (w : World) (Q : Bool → World → Prop) : Prop :=
  herdsmanref1_MadeTile.call w0_1 h0 c_a c_n c_c w fun r18_0 r18_1 r18_2_a r18_2_n r18_2_c w0_2 =>
  Al T 24 w0_2 fun t w0_3 =>
  St (t.add 0) (.int .i64 r18_0) w0_3 fun w0_4 =>
  St (t.add 1) (.int .i64 r18_1) w0_4 fun w0_5 =>
  St (t.add 2) (.slice r18_2_a r18_2_n r18_2_c) w0_5 fun w0_6 =>
  LdS (t.add 2) w0_6 fun x21_a x21_n x21_c =>
  herdsmanref1_Within.call local0 0 (IntKind.wrap .i64 ((x21_n : Int) - 1)) w0_6 fun r24 w0_7 =>
  Al T 37 w0_7 fun back w0_8 =>
  St (back.add 0) (.int .i64 2) w0_8 fun w0_9 =>
  St (back.add 1) (.int .i64 3) w0_9 fun w0_10 =>
  St (back.add 2) (.int .i64 0) w0_10 fun w0_11 =>
  St (back.add 3) (.int .i64 1) w0_11 fun w0_12 =>
  LdI .i64 t w0_12.drew fun x28 =>
  LdI .i64 t w0_12.drew fun x32 =>
  NZ x32 <|
  LdI .i64 t w0_12.drew fun x35 =>
  LdS (t.add 2) w0_12.drew fun x40_a x40_n x40_c =>
  LdI .i64 t w0_12.drew fun x43 =>
  LdI .i64 t w0_12.drew fun x48 =>
  NZ x48 <|
  Al T 38 w0_12.drew fun edge w0_13 =>
  w0_13.cell? t = some (.int .i64 x48) ∧
  w0_13.cell? t = some (.int .i64 x43) ∧
  w0_13.cell? (t.add 2) = some (.slice x40_a x40_n x40_c) ∧
  w0_13.cell? t = some (.int .i64 x35) ∧
  w0_13.cell? t = some (.int .i64 x32) ∧
  w0_13.cell? t = some (.int .i64 x28) ∧
  St (edge.add 0) (.bool (decide (r24 < x28))) w0_13 fun w0_14 =>
  St (edge.add 1) (.bool ((Int.tmod r24 x32) == (IntKind.wrap .i64 (x35 - 1)))) w0_14 fun w0_15 =>
  St (edge.add 2) (.bool (decide (r24 ≥ (IntKind.wrap .i64 ((x40_n : Int) - x43))))) w0_15 fun w0_16 =>
  St (edge.add 3) (.bool ((Int.tmod r24 x48) == 0)) w0_16 fun w0_17 =>
  ∃ k', herdsmanlaw2_TileMates.b6 Q k' t r24 back edge 0 w0_17
noncomputable def herdsmanlaw2_TileMates.scr : Scrs := [(4, .op 0 (.op 1 (.op 2 (.op 3 (.op 4 (.op 5 (.op 6 (.op 7 (.op 8 (.op 9 (.op 10 (.op 11 (.op 12 (.op 13 (.op 14 (.op 15 (.op 16 (.op 17 (.op 18 (.op 19 (.op 20 (.op 21 (.op 22 (.op 23 (.op 24 (.op 25 (.op 26 (.op 27 .done)))))))))))))))))))))))))))), (9, .op 0 (.op 1 (.op 2 (.op 3 (.op 4 (.op 5 (.op 6 (.op 7 (.op 8 (.op 9 (.op 10 (.op 11 (.op 12 (.op 13 (.op 14 (.op 16 (.op 15 (.op 17 (.op 18 (.op 19 .done))))))))))))))))))))]
def herdsmanlaw2_TileMates.R (Q : Bool → World → Prop) (ρ : Env) (w : World) : Prop := evRes (cx 94) Go.Proofs.Try.f4.results.toList ρ w fun vs => herdsmanlaw2_TileMates.qv Q (resV vs) w
def herdsmanlaw2_TileMates.d6 (K : Addr → Int → Addr → Addr → Int → Prop) (ρ : Env) : Prop :=
  dP (ρ 9) fun t_p => wA t_p fun t => dI .i64 (ρ 10) fun l => dP (ρ 11) fun back_p => wA back_p fun back => dP (ρ 12) fun edge_p => wA edge_p fun edge => dI .i64 (ρ 13) fun side => K t l back edge side
theorem herdsmanlaw2_TileMates.d6_elim {K : Addr → Int → Addr → Addr → Int → Prop} {ρ : Env} (h0 : herdsmanlaw2_TileMates.d6 K ρ) : ∃ (t : Addr) (l : Int) (back : Addr) (edge : Addr) (side : Int), ρ 9 = .pointer (some t) ∧ ρ 10 = .int .i64 l ∧ ρ 11 = .pointer (some back) ∧ ρ 12 = .pointer (some edge) ∧ ρ 13 = .int .i64 side ∧ K t l back edge side := by
  obtain ⟨t_p, e9, h1⟩ := dP_elim h0
  obtain ⟨t, rfl, h2⟩ := wA_elim h1
  obtain ⟨l, e10, h3⟩ := dI_elim h2
  obtain ⟨back_p, e11, h4⟩ := dP_elim h3
  obtain ⟨back, rfl, h5⟩ := wA_elim h4
  obtain ⟨edge_p, e12, h6⟩ := dP_elim h5
  obtain ⟨edge, rfl, h7⟩ := wA_elim h6
  obtain ⟨side, e13, h8⟩ := dI_elim h7
  exact ⟨t, l, back, edge, side, e9, e10, e11, e12, e13, h8⟩
set_option maxRecDepth 100000 in
theorem herdsmanlaw2_TileMates.f6 (Q : Bool → World → Prop) : ∀ k t l back edge side w, herdsmanlaw2_TileMates.b6 Q k t l back edge side w → ∀ ρ : Env, ρ 9 = .pointer (some t) → ρ 10 = .int .i64 l → ρ 11 = .pointer (some back) → ρ 12 = .pointer (some edge) → ρ 13 = .int .i64 side → Fin (cx 94) (todoOf Go.Proofs.Try.f4 6) ρ w (herdsmanlaw2_TileMates.R Q) := by
  intro k
  induction k with
  | zero => intro t l back edge side w h; exact h.elim
  | succ k ih =>
    intro t l back edge side w h ρ e9 e10 e11 e12 e13
    have h : herdsmanlaw2_TileMates.s6 Q (herdsmanlaw2_TileMates.b6 Q k) t l back edge side w := h
    refine Fin.cut (ρ' := put (put (put (put (put (ρ) (some 9) (.pointer (some t))) (some 10) (.int .i64 l)) (some 11) (.pointer (some back))) (some 12) (.pointer (some edge))) (some 13) (.int .i64 side)) ?_ (by rw [put_id e9, put_id e10, put_id e11, put_id e12, put_id e13])
    refine evT_sound (ok 94) (drawD_sound (ok 94) herdsmanlaw2_TileMates.scr) 600 (L := [(6, fun ρ w => herdsmanlaw2_TileMates.d6 (fun t l back edge side => herdsmanlaw2_TileMates.b6 Q k t l back edge side w) ρ)]) (leaf_of (fn := Go.Proofs.Try.f4) [6] (by kernel_rfl) ⟨fun ρ w h => by obtain ⟨t, l, back, edge, side, e9, e10, e11, e12, e13, h⟩ := herdsmanlaw2_TileMates.d6_elim (ρ := ρ) h; exact ih t l back edge side w h ρ e9 e10 e11 e12 e13, trivial⟩) (castK h (by kernel_rfl))
set_option maxRecDepth 100000 in
theorem herdsmanlaw2_TileMates.body (c_a : Option Addr) (c_n : Nat) (c_c : Nat) (w0_1 : Int) (h0 : Int) (local0 : Int) (w : World) (Q : Bool → World → Prop) (h : herdsmanlaw2_TileMates.sh c_a c_n c_c w0_1 h0 local0 w Q) : herdsmanlaw2_TileMates.call c_a c_n c_c w0_1 h0 local0 w Q := by
  refine call_fn (ok 94) (fn := Go.Proofs.Try.f4) (args := [.slice c_a c_n c_c, .int .i64 w0_1, .int .i64 h0, .int .i64 local0]) (K := herdsmanlaw2_TileMates.qv Q) Go.Proofs.Try.func4 (by kernel_rfl) (by kernel_rfl) (by kernel_rfl) ?_
  refine evT_sound (ok 94) (drawD_sound (ok 94) herdsmanlaw2_TileMates.scr) 600 (L := [(6, fun ρ w => herdsmanlaw2_TileMates.d6 (fun t l back edge side => ∃ k', herdsmanlaw2_TileMates.b6 Q k' t l back edge side w) ρ)]) (leaf_of (fn := Go.Proofs.Try.f4) [6] (by kernel_rfl) ⟨fun ρ w h => by obtain ⟨t, l, back, edge, side, e9, e10, e11, e12, e13, h⟩ := herdsmanlaw2_TileMates.d6_elim (ρ := ρ) h; obtain ⟨k', h⟩ := h; exact herdsmanlaw2_TileMates.f6 Q k' t l back edge side w h ρ e9 e10 e11 e12 e13, trivial⟩) (castK h (by kernel_rfl))
/-! ### 30 bytes.Equal -/
def bytes_Equal.sh (a_a : Option Addr) (a_n : Nat) (a_c : Nat) (b_a : Option Addr) (b_n : Nat) (b_c : Nat) (w : World) (Q : Bool → World → Prop) : Prop :=
  RunK P (convert 22 9 (.slice a_a a_n a_c)) w fun v w0_1 =>
  dStr v fun x6 =>
  RunK P (convert 22 9 (.slice b_a b_n b_c)) w0_1 fun v_1 w0_2 =>
  dStr v_1 fun x8 =>
  Q (x6.toList == x8.toList) w0_2
noncomputable def bytes_Equal.scr : Scrs := []
def bytes_Equal.R (Q : Bool → World → Prop) (ρ : Env) (w : World) : Prop := evRes (cx 10) Go.Proofs.Try.f30.results.toList ρ w fun vs => bytes_Equal.qv Q (resV vs) w
set_option maxRecDepth 100000 in
theorem bytes_Equal.body (a_a : Option Addr) (a_n : Nat) (a_c : Nat) (b_a : Option Addr) (b_n : Nat) (b_c : Nat) (w : World) (Q : Bool → World → Prop) (h : bytes_Equal.sh a_a a_n a_c b_a b_n b_c w Q) : bytes_Equal.call a_a a_n a_c b_a b_n b_c w Q := by
  refine call_fn (ok 10) (fn := Go.Proofs.Try.f30) (args := [.slice a_a a_n a_c, .slice b_a b_n b_c]) (K := bytes_Equal.qv Q) Go.Proofs.Try.func30 (by kernel_rfl) (by kernel_rfl) (by kernel_rfl) ?_
  refine evT_sound (ok 10) (drawD_sound (ok 10) bytes_Equal.scr) 600 (L := []) (leaf_of (fn := Go.Proofs.Try.f30) [] (by kernel_rfl) trivial) (castK h (by kernel_rfl))
/-! ### 21 herdsman/tile.Same -/
def tile_Same.sh (a_W : Int) (a_H : Int) (a_C_a : Option Addr) (a_C_n : Nat) (a_C_c : Nat) (b_W : Int) (b_H : Int) (b_C_a : Option Addr) (b_C_n : Nat) (b_C_c : Nat) (w : World) (Q : Bool → World → Prop) : Prop :=
  Bx [.int .i64 a_W, .int .i64 a_H, .slice a_C_a a_C_n a_C_c] 24 w fun a_b w0_1 =>
  Bx [.int .i64 b_W, .int .i64 b_H, .slice b_C_a b_C_n b_C_c] 24 w0_1 fun b_b w0_2 =>
  LdI .i64 a_b w0_2 fun x6 =>
  LdI .i64 b_b w0_2 fun x8 =>
  cond (x6 == x8)
  (LdI .i64 (a_b.add 1) w0_2 fun x12 =>
  LdI .i64 (b_b.add 1) w0_2 fun x14 =>
  cond (x12 == x14)
  (LdS (a_b.add 2) w0_2 fun x19_a x19_n x19_c =>
  LdS (b_b.add 2) w0_2 fun x21_a x21_n x21_c =>
  bytes_Equal.call x19_a x19_n x19_c x21_a x21_n x21_c w0_2 fun r22 w0_3 =>
  Q r22 w0_3)
  (Q false w0_2))
  (Q false w0_2)
noncomputable def tile_Same.scr : Scrs := []
def tile_Same.R (Q : Bool → World → Prop) (ρ : Env) (w : World) : Prop := evRes (cx 24) Go.Proofs.Try.f21.results.toList ρ w fun vs => tile_Same.qv Q (resV vs) w
set_option maxRecDepth 100000 in
theorem tile_Same.body (a_W : Int) (a_H : Int) (a_C_a : Option Addr) (a_C_n : Nat) (a_C_c : Nat) (b_W : Int) (b_H : Int) (b_C_a : Option Addr) (b_C_n : Nat) (b_C_c : Nat) (w : World) (Q : Bool → World → Prop) (h : tile_Same.sh a_W a_H a_C_a a_C_n a_C_c b_W b_H b_C_a b_C_n b_C_c w Q) : tile_Same.call a_W a_H a_C_a a_C_n a_C_c b_W b_H b_C_a b_C_n b_C_c w Q := by
  refine call_fn (ok 24) (fn := Go.Proofs.Try.f21) (args := [.agg #[.int .i64 a_W, .int .i64 a_H, .slice a_C_a a_C_n a_C_c], .agg #[.int .i64 b_W, .int .i64 b_H, .slice b_C_a b_C_n b_C_c]]) (K := tile_Same.qv Q) Go.Proofs.Try.func21 (by kernel_rfl) (by kernel_rfl) (by kernel_rfl) ?_
  refine evT_sound (ok 24) (drawD_sound (ok 24) tile_Same.scr) 600 (L := []) (leaf_of (fn := Go.Proofs.Try.f21) [] (by kernel_rfl) trivial) (castK h (by kernel_rfl))
/-! ### 31 herdsman/herdsmanref1.Bytes -/
def herdsmanref1_Bytes.sh (a_a : Option Addr) (a_n : Nat) (a_c : Nat) (b_a : Option Addr) (b_n : Nat) (b_c : Nat) (w : World) (Q : Bool → World → Prop) : Prop :=
  RunK P (convert 22 9 (.slice a_a a_n a_c)) w fun v w0_1 =>
  dStr v fun x6 =>
  RunK P (convert 22 9 (.slice b_a b_n b_c)) w0_1 fun v_1 w0_2 =>
  dStr v_1 fun x8 =>
  Q (x6.toList == x8.toList) w0_2
noncomputable def herdsmanref1_Bytes.scr : Scrs := []
def herdsmanref1_Bytes.R (Q : Bool → World → Prop) (ρ : Env) (w : World) : Prop := evRes (cx 10) Go.Proofs.Try.f31.results.toList ρ w fun vs => herdsmanref1_Bytes.qv Q (resV vs) w
set_option maxRecDepth 100000 in
theorem herdsmanref1_Bytes.body (a_a : Option Addr) (a_n : Nat) (a_c : Nat) (b_a : Option Addr) (b_n : Nat) (b_c : Nat) (w : World) (Q : Bool → World → Prop) (h : herdsmanref1_Bytes.sh a_a a_n a_c b_a b_n b_c w Q) : herdsmanref1_Bytes.call a_a a_n a_c b_a b_n b_c w Q := by
  refine call_fn (ok 10) (fn := Go.Proofs.Try.f31) (args := [.slice a_a a_n a_c, .slice b_a b_n b_c]) (K := herdsmanref1_Bytes.qv Q) Go.Proofs.Try.func31 (by kernel_rfl) (by kernel_rfl) (by kernel_rfl) ?_
  refine evT_sound (ok 10) (drawD_sound (ok 10) herdsmanref1_Bytes.scr) 600 (L := []) (leaf_of (fn := Go.Proofs.Try.f31) [] (by kernel_rfl) trivial) (castK h (by kernel_rfl))
/-! ### 22 herdsman/herdsmanref1.SameTile -/
def herdsmanref1_SameTile.sh (a_W : Int) (a_H : Int) (a_C_a : Option Addr) (a_C_n : Nat) (a_C_c : Nat) (b_W : Int) (b_H : Int) (b_C_a : Option Addr) (b_C_n : Nat) (b_C_c : Nat) (w : World) (Q : Bool → World → Prop) : Prop :=
  Bx [.int .i64 a_W, .int .i64 a_H, .slice a_C_a a_C_n a_C_c] 24 w fun a_b w0_1 =>
  Bx [.int .i64 b_W, .int .i64 b_H, .slice b_C_a b_C_n b_C_c] 24 w0_1 fun b_b w0_2 =>
  LdI .i64 a_b w0_2 fun x6 =>
  LdI .i64 b_b w0_2 fun x8 =>
  cond (x6 == x8)
  (LdI .i64 (a_b.add 1) w0_2 fun x12 =>
  LdI .i64 (b_b.add 1) w0_2 fun x14 =>
  cond (x12 == x14)
  (LdS (a_b.add 2) w0_2 fun x19_a x19_n x19_c =>
  LdS (b_b.add 2) w0_2 fun x21_a x21_n x21_c =>
  herdsmanref1_Bytes.call x19_a x19_n x19_c x21_a x21_n x21_c w0_2 fun r22 w0_3 =>
  Q r22 w0_3)
  (Q false w0_2))
  (Q false w0_2)
noncomputable def herdsmanref1_SameTile.scr : Scrs := []
def herdsmanref1_SameTile.R (Q : Bool → World → Prop) (ρ : Env) (w : World) : Prop := evRes (cx 24) Go.Proofs.Try.f22.results.toList ρ w fun vs => herdsmanref1_SameTile.qv Q (resV vs) w
set_option maxRecDepth 100000 in
theorem herdsmanref1_SameTile.body (a_W : Int) (a_H : Int) (a_C_a : Option Addr) (a_C_n : Nat) (a_C_c : Nat) (b_W : Int) (b_H : Int) (b_C_a : Option Addr) (b_C_n : Nat) (b_C_c : Nat) (w : World) (Q : Bool → World → Prop) (h : herdsmanref1_SameTile.sh a_W a_H a_C_a a_C_n a_C_c b_W b_H b_C_a b_C_n b_C_c w Q) : herdsmanref1_SameTile.call a_W a_H a_C_a a_C_n a_C_c b_W b_H b_C_a b_C_n b_C_c w Q := by
  refine call_fn (ok 24) (fn := Go.Proofs.Try.f22) (args := [.agg #[.int .i64 a_W, .int .i64 a_H, .slice a_C_a a_C_n a_C_c], .agg #[.int .i64 b_W, .int .i64 b_H, .slice b_C_a b_C_n b_C_c]]) (K := herdsmanref1_SameTile.qv Q) Go.Proofs.Try.func22 (by kernel_rfl) (by kernel_rfl) (by kernel_rfl) ?_
  refine evT_sound (ok 24) (drawD_sound (ok 24) herdsmanref1_SameTile.scr) 600 (L := []) (leaf_of (fn := Go.Proofs.Try.f22) [] (by kernel_rfl) trivial) (castK h (by kernel_rfl))
/-! ### 5 herdsman/herdsmanlaw2.TileSame -/
def herdsmanlaw2_TileSame.b8 (Q : Bool → World → Prop) (x : Addr) (y : Addr) (w : World) : Prop :=
  herdsmanlaw2_told.call w.drew fun r48 w0_1 =>
  cond r48
  (LdI .i64 (x.add 0) w0_1 fun x50_W =>
  LdI .i64 (x.add 1) w0_1 fun x50_H =>
  LdS (x.add 2) w0_1 fun x50_C_a x50_C_n x50_C_c =>
  LdI .i64 (y.add 0) w0_1 fun x51_W =>
  LdI .i64 (y.add 1) w0_1 fun x51_H =>
  LdS (y.add 2) w0_1 fun x51_C_a x51_C_n x51_C_c =>
  LdI .i64 (x.add 0) w0_1 fun x53_W =>
  LdI .i64 (x.add 1) w0_1 fun x53_H =>
  LdS (x.add 2) w0_1 fun x53_C_a x53_C_n x53_C_c =>
  LdI .i64 (y.add 0) w0_1 fun x54_W =>
  LdI .i64 (y.add 1) w0_1 fun x54_H =>
  LdS (y.add 2) w0_1 fun x54_C_a x54_C_n x54_C_c =>
  tile_Same.call x50_W x50_H x50_C_a x50_C_n x50_C_c x51_W x51_H x51_C_a x51_C_n x51_C_c w0_1 fun r52 w0_2 =>
  w0_2.cell? (y.add 0) = some (.int .i64 x54_W) ∧
  w0_2.cell? (y.add 1) = some (.int .i64 x54_H) ∧
  w0_2.cell? (y.add 2) = some (.slice x54_C_a x54_C_n x54_C_c) ∧
  w0_2.cell? (x.add 0) = some (.int .i64 x53_W) ∧
  w0_2.cell? (x.add 1) = some (.int .i64 x53_H) ∧
  w0_2.cell? (x.add 2) = some (.slice x53_C_a x53_C_n x53_C_c) ∧
  herdsmanref1_SameTile.call x53_W x53_H x53_C_a x53_C_n x53_C_c x54_W x54_H x54_C_a x54_C_n x54_C_c w0_2 fun r55 w0_3 =>
  cond (r52 == r55)
  (LdI .i64 (y.add 0) w0_3 fun x59_W =>
  LdI .i64 (y.add 1) w0_3 fun x59_H =>
  LdS (y.add 2) w0_3 fun x59_C_a x59_C_n x59_C_c =>
  LdI .i64 (x.add 0) w0_3 fun x60_W =>
  LdI .i64 (x.add 1) w0_3 fun x60_H =>
  LdS (x.add 2) w0_3 fun x60_C_a x60_C_n x60_C_c =>
  LdI .i64 (x.add 0) w0_3 fun x62_W =>
  LdI .i64 (x.add 1) w0_3 fun x62_H =>
  LdS (x.add 2) w0_3 fun x62_C_a x62_C_n x62_C_c =>
  LdI .i64 (y.add 0) w0_3 fun x63_W =>
  LdI .i64 (y.add 1) w0_3 fun x63_H =>
  LdS (y.add 2) w0_3 fun x63_C_a x63_C_n x63_C_c =>
  tile_Same.call x59_W x59_H x59_C_a x59_C_n x59_C_c x60_W x60_H x60_C_a x60_C_n x60_C_c w0_3 fun r61 w0_4 =>
  w0_4.cell? (y.add 0) = some (.int .i64 x63_W) ∧
  w0_4.cell? (y.add 1) = some (.int .i64 x63_H) ∧
  w0_4.cell? (y.add 2) = some (.slice x63_C_a x63_C_n x63_C_c) ∧
  w0_4.cell? (x.add 0) = some (.int .i64 x62_W) ∧
  w0_4.cell? (x.add 1) = some (.int .i64 x62_H) ∧
  w0_4.cell? (x.add 2) = some (.slice x62_C_a x62_C_n x62_C_c) ∧
  tile_Same.call x62_W x62_H x62_C_a x62_C_n x62_C_c x63_W x63_H x63_C_a x63_C_n x63_C_c w0_4 fun r64 w0_5 =>
  cond (r61 == r64)
  (LdI .i64 (x.add 0) w0_5 fun x68_W =>
  LdI .i64 (x.add 1) w0_5 fun x68_H =>
  LdS (x.add 2) w0_5 fun x68_C_a x68_C_n x68_C_c =>
  LdI .i64 (x.add 0) w0_5 fun x69_W =>
  LdI .i64 (x.add 1) w0_5 fun x69_H =>
  LdS (x.add 2) w0_5 fun x69_C_a x69_C_n x69_C_c =>
  tile_Same.call x68_W x68_H x68_C_a x68_C_n x68_C_c x69_W x69_H x69_C_a x69_C_n x69_C_c w0_5 fun r70 w0_6 =>
  Q r70 w0_6)
  (Q false w0_5))
  (Q false w0_3))
  (Q false w0_1)
def herdsmanlaw2_TileSame.b4 (Q : Bool → World → Prop) (at0 : Int) (by0 : Int) (one : Bool) (a : Addr) (x : Addr) (y : Addr) (w : World) : Prop :=
  cond one
  (LdI .i64 (a.add 0) w fun x29_W =>
  LdI .i64 (a.add 1) w fun x29_H =>
  LdS (a.add 2) w fun x29_C_a x29_C_n x29_C_c =>
  herdsmanref1_OwnTile.call x29_W x29_H x29_C_a x29_C_n x29_C_c w fun r30_0 r30_1 r30_2_a r30_2_n r30_2_c w0_1 =>
  St (y.add 0) (.int .i64 r30_0) w0_1 fun w0_2 =>
  St (y.add 1) (.int .i64 r30_1) w0_2 fun w0_3 =>
  St (y.add 2) (.slice r30_2_a r30_2_n r30_2_c) w0_3 fun w0_4 =>
  LdS (y.add 2) w0_4 fun x32_a x32_n x32_c =>
  cond (decide ((x32_n : Int) > 0))
  (LdS (y.add 2) w0_4.drew fun x36_a x36_n x36_c =>
  LdS (y.add 2) w0_4.drew fun x39_a x39_n x39_c =>
  herdsmanref1_Within.call at0 0 (IntKind.wrap .i64 ((x39_n : Int) - 1)) w0_4.drew fun r42 w0_5 =>
  w0_5.cell? (y.add 2) = some (.slice x36_a x36_n x36_c) ∧
  (InB r42 x36_n <|
  wA x36_a fun p =>
  LdI .u8 (p.add (r42.toNat * 1)) w0_5 fun x44 =>
  InB r42 x36_n <|
  wA x36_a fun p_1 =>
  St (p_1.add (r42.toNat * 1)) (.int .u8 (ixor .u8 x44 by0)) w0_5 fun w0_6 =>
  herdsmanlaw2_TileSame.b8 Q x y w0_6))
  (herdsmanlaw2_TileSame.b8 Q x y w0_4))
  (herdsmanlaw2_TileSame.b8 Q x y w)
def herdsmanlaw2_TileSame.sh (a_W : Int) (a_H : Int) (a_C_a : Option Addr) (a_C_n : Nat) (a_C_c : Nat) (b_W : Int) (b_H : Int) (b_C_a : Option Addr) (b_C_n : Nat) (b_C_c : Nat) (at0 : Int) (by0 : Int) (one : Bool) (w : World) (Q : Bool → World → Prop) : Prop :=
  Bx [.int .i64 a_W, .int .i64 a_H, .slice a_C_a a_C_n a_C_c] 24 w fun a_b w0_1 =>
  Bx [.int .i64 b_W, .int .i64 b_H, .slice b_C_a b_C_n b_C_c] 24 w0_1 fun b_b w0_2 =>
  LdS (a_b.add 2) w0_2 fun x14_a x14_n x14_c =>
  cond (decide ((x14_n : Int) > 600))
  (herdsmanlaw2_told.call w0_2 fun r23 w0_3 =>
  Q r23 w0_3)
  (LdS (b_b.add 2) w0_2 fun x19_a x19_n x19_c =>
  cond (decide ((x19_n : Int) > 600))
  (herdsmanlaw2_told.call w0_2 fun r23_1 w0_4 =>
  Q r23_1 w0_4)
  (LdI .i64 (a_b.add 0) w0_2.drew fun x24_W =>
  LdI .i64 (a_b.add 1) w0_2.drew fun x24_H =>
  LdS (a_b.add 2) w0_2.drew fun x24_C_a x24_C_n x24_C_c =>
  LdI .i64 (b_b.add 0) w0_2.drew fun x26_W =>
  LdI .i64 (b_b.add 1) w0_2.drew fun x26_H =>
  LdS (b_b.add 2) w0_2.drew fun x26_C_a x26_C_n x26_C_c =>
  (herdsmanref1_OwnTile.call x24_W x24_H x24_C_a x24_C_n x24_C_c w0_2.drew fun r25_0 r25_1 r25_2_a r25_2_n r25_2_c w0_5 =>
  w0_5.cell? (b_b.add 0) = some (.int .i64 x26_W) ∧
  w0_5.cell? (b_b.add 1) = some (.int .i64 x26_H) ∧
  w0_5.cell? (b_b.add 2) = some (.slice x26_C_a x26_C_n x26_C_c) ∧
  (herdsmanref1_OwnTile.call x26_W x26_H x26_C_a x26_C_n x26_C_c w0_5 fun r27_0 r27_1 r27_2_a r27_2_n r27_2_c w0_6 =>
  (Al T 24 w0_6 fun x w0_7 =>
  w0_7.cell? (b_b.add 0) = some (.int .i64 x26_W) ∧
  w0_7.cell? (b_b.add 1) = some (.int .i64 x26_H) ∧
  w0_7.cell? (b_b.add 2) = some (.slice x26_C_a x26_C_n x26_C_c) ∧
  w0_7.cell? (a_b.add 0) = some (.int .i64 x24_W) ∧
  w0_7.cell? (a_b.add 1) = some (.int .i64 x24_H) ∧
  w0_7.cell? (a_b.add 2) = some (.slice x24_C_a x24_C_n x24_C_c) ∧
  Al T 24 w0_7 fun y w0_8 =>
  w0_8.cell? (b_b.add 0) = some (.int .i64 x26_W) ∧
  w0_8.cell? (b_b.add 1) = some (.int .i64 x26_H) ∧
  w0_8.cell? (b_b.add 2) = some (.slice x26_C_a x26_C_n x26_C_c) ∧
  w0_8.cell? (a_b.add 0) = some (.int .i64 x24_W) ∧
  w0_8.cell? (a_b.add 1) = some (.int .i64 x24_H) ∧
  w0_8.cell? (a_b.add 2) = some (.slice x24_C_a x24_C_n x24_C_c) ∧
  St (x.add 0) (.int .i64 r25_0) w0_8 fun w0_9 =>
  St (x.add 1) (.int .i64 r25_1) w0_9 fun w0_10 =>
  St (x.add 2) (.slice r25_2_a r25_2_n r25_2_c) w0_10 fun w0_11 =>
  St (y.add 0) (.int .i64 r27_0) w0_11 fun w0_12 =>
  St (y.add 1) (.int .i64 r27_1) w0_12 fun w0_13 =>
  St (y.add 2) (.slice r27_2_a r27_2_n r27_2_c) w0_13 fun w0_14 =>
  herdsmanlaw2_TileSame.b4 Q at0 by0 one a_b x y w0_14) ∧
  (Al T 24 w0_6 fun y_1 w0_15 =>
  w0_15.cell? (b_b.add 0) = some (.int .i64 x26_W) ∧
  w0_15.cell? (b_b.add 1) = some (.int .i64 x26_H) ∧
  w0_15.cell? (b_b.add 2) = some (.slice x26_C_a x26_C_n x26_C_c) ∧
  w0_15.cell? (a_b.add 0) = some (.int .i64 x24_W) ∧
  w0_15.cell? (a_b.add 1) = some (.int .i64 x24_H) ∧
  w0_15.cell? (a_b.add 2) = some (.slice x24_C_a x24_C_n x24_C_c) ∧
  Al T 24 w0_15 fun x_1 w0_16 =>
  w0_16.cell? (b_b.add 0) = some (.int .i64 x26_W) ∧
  w0_16.cell? (b_b.add 1) = some (.int .i64 x26_H) ∧
  w0_16.cell? (b_b.add 2) = some (.slice x26_C_a x26_C_n x26_C_c) ∧
  w0_16.cell? (a_b.add 0) = some (.int .i64 x24_W) ∧
  w0_16.cell? (a_b.add 1) = some (.int .i64 x24_H) ∧
  w0_16.cell? (a_b.add 2) = some (.slice x24_C_a x24_C_n x24_C_c) ∧
  St (x_1.add 0) (.int .i64 r25_0) w0_16 fun w0_17 =>
  St (x_1.add 1) (.int .i64 r25_1) w0_17 fun w0_18 =>
  St (x_1.add 2) (.slice r25_2_a r25_2_n r25_2_c) w0_18 fun w0_19 =>
  St (y_1.add 0) (.int .i64 r27_0) w0_19 fun w0_20 =>
  St (y_1.add 1) (.int .i64 r27_1) w0_20 fun w0_21 =>
  St (y_1.add 2) (.slice r27_2_a r27_2_n r27_2_c) w0_21 fun w0_22 =>
  herdsmanlaw2_TileSame.b4 Q at0 by0 one a_b x_1 y_1 w0_22)) ∧
  ((Al T 24 w0_5 fun x_2 w0_23 =>
  w0_23.cell? (b_b.add 0) = some (.int .i64 x26_W) ∧
  w0_23.cell? (b_b.add 1) = some (.int .i64 x26_H) ∧
  w0_23.cell? (b_b.add 2) = some (.slice x26_C_a x26_C_n x26_C_c) ∧
  w0_23.cell? (a_b.add 0) = some (.int .i64 x24_W) ∧
  w0_23.cell? (a_b.add 1) = some (.int .i64 x24_H) ∧
  w0_23.cell? (a_b.add 2) = some (.slice x24_C_a x24_C_n x24_C_c) ∧
  (herdsmanref1_OwnTile.call x26_W x26_H x26_C_a x26_C_n x26_C_c w0_23 fun r27_0_1 r27_1_1 r27_2_a_1 r27_2_n_1 r27_2_c_1 w0_24 =>
  Al T 24 w0_24 fun y_2 w0_25 =>
  w0_25.cell? (b_b.add 0) = some (.int .i64 x26_W) ∧
  w0_25.cell? (b_b.add 1) = some (.int .i64 x26_H) ∧
  w0_25.cell? (b_b.add 2) = some (.slice x26_C_a x26_C_n x26_C_c) ∧
  w0_25.cell? (a_b.add 0) = some (.int .i64 x24_W) ∧
  w0_25.cell? (a_b.add 1) = some (.int .i64 x24_H) ∧
  w0_25.cell? (a_b.add 2) = some (.slice x24_C_a x24_C_n x24_C_c) ∧
  St (x_2.add 0) (.int .i64 r25_0) w0_25 fun w0_26 =>
  St (x_2.add 1) (.int .i64 r25_1) w0_26 fun w0_27 =>
  St (x_2.add 2) (.slice r25_2_a r25_2_n r25_2_c) w0_27 fun w0_28 =>
  St (y_2.add 0) (.int .i64 r27_0_1) w0_28 fun w0_29 =>
  St (y_2.add 1) (.int .i64 r27_1_1) w0_29 fun w0_30 =>
  St (y_2.add 2) (.slice r27_2_a_1 r27_2_n_1 r27_2_c_1) w0_30 fun w0_31 =>
  herdsmanlaw2_TileSame.b4 Q at0 by0 one a_b x_2 y_2 w0_31) ∧
  (Al T 24 w0_23 fun y_3 w0_32 =>
  w0_32.cell? (b_b.add 0) = some (.int .i64 x26_W) ∧
  w0_32.cell? (b_b.add 1) = some (.int .i64 x26_H) ∧
  w0_32.cell? (b_b.add 2) = some (.slice x26_C_a x26_C_n x26_C_c) ∧
  w0_32.cell? (a_b.add 0) = some (.int .i64 x24_W) ∧
  w0_32.cell? (a_b.add 1) = some (.int .i64 x24_H) ∧
  w0_32.cell? (a_b.add 2) = some (.slice x24_C_a x24_C_n x24_C_c) ∧
  herdsmanref1_OwnTile.call x26_W x26_H x26_C_a x26_C_n x26_C_c w0_32 fun r27_0_2 r27_1_2 r27_2_a_2 r27_2_n_2 r27_2_c_2 w0_33 =>
  St (x_2.add 0) (.int .i64 r25_0) w0_33 fun w0_34 =>
  St (x_2.add 1) (.int .i64 r25_1) w0_34 fun w0_35 =>
  St (x_2.add 2) (.slice r25_2_a r25_2_n r25_2_c) w0_35 fun w0_36 =>
  St (y_3.add 0) (.int .i64 r27_0_2) w0_36 fun w0_37 =>
  St (y_3.add 1) (.int .i64 r27_1_2) w0_37 fun w0_38 =>
  St (y_3.add 2) (.slice r27_2_a_2 r27_2_n_2 r27_2_c_2) w0_38 fun w0_39 =>
  herdsmanlaw2_TileSame.b4 Q at0 by0 one a_b x_2 y_3 w0_39)) ∧
  (Al T 24 w0_5 fun y_4 w0_40 =>
  w0_40.cell? (b_b.add 0) = some (.int .i64 x26_W) ∧
  w0_40.cell? (b_b.add 1) = some (.int .i64 x26_H) ∧
  w0_40.cell? (b_b.add 2) = some (.slice x26_C_a x26_C_n x26_C_c) ∧
  w0_40.cell? (a_b.add 0) = some (.int .i64 x24_W) ∧
  w0_40.cell? (a_b.add 1) = some (.int .i64 x24_H) ∧
  w0_40.cell? (a_b.add 2) = some (.slice x24_C_a x24_C_n x24_C_c) ∧
  (herdsmanref1_OwnTile.call x26_W x26_H x26_C_a x26_C_n x26_C_c w0_40 fun r27_0_3 r27_1_3 r27_2_a_3 r27_2_n_3 r27_2_c_3 w0_41 =>
  Al T 24 w0_41 fun x_3 w0_42 =>
  w0_42.cell? (b_b.add 0) = some (.int .i64 x26_W) ∧
  w0_42.cell? (b_b.add 1) = some (.int .i64 x26_H) ∧
  w0_42.cell? (b_b.add 2) = some (.slice x26_C_a x26_C_n x26_C_c) ∧
  w0_42.cell? (a_b.add 0) = some (.int .i64 x24_W) ∧
  w0_42.cell? (a_b.add 1) = some (.int .i64 x24_H) ∧
  w0_42.cell? (a_b.add 2) = some (.slice x24_C_a x24_C_n x24_C_c) ∧
  St (x_3.add 0) (.int .i64 r25_0) w0_42 fun w0_43 =>
  St (x_3.add 1) (.int .i64 r25_1) w0_43 fun w0_44 =>
  St (x_3.add 2) (.slice r25_2_a r25_2_n r25_2_c) w0_44 fun w0_45 =>
  St (y_4.add 0) (.int .i64 r27_0_3) w0_45 fun w0_46 =>
  St (y_4.add 1) (.int .i64 r27_1_3) w0_46 fun w0_47 =>
  St (y_4.add 2) (.slice r27_2_a_3 r27_2_n_3 r27_2_c_3) w0_47 fun w0_48 =>
  herdsmanlaw2_TileSame.b4 Q at0 by0 one a_b x_3 y_4 w0_48) ∧
  (Al T 24 w0_40 fun x_4 w0_49 =>
  w0_49.cell? (b_b.add 0) = some (.int .i64 x26_W) ∧
  w0_49.cell? (b_b.add 1) = some (.int .i64 x26_H) ∧
  w0_49.cell? (b_b.add 2) = some (.slice x26_C_a x26_C_n x26_C_c) ∧
  w0_49.cell? (a_b.add 0) = some (.int .i64 x24_W) ∧
  w0_49.cell? (a_b.add 1) = some (.int .i64 x24_H) ∧
  w0_49.cell? (a_b.add 2) = some (.slice x24_C_a x24_C_n x24_C_c) ∧
  herdsmanref1_OwnTile.call x26_W x26_H x26_C_a x26_C_n x26_C_c w0_49 fun r27_0_4 r27_1_4 r27_2_a_4 r27_2_n_4 r27_2_c_4 w0_50 =>
  St (x_4.add 0) (.int .i64 r25_0) w0_50 fun w0_51 =>
  St (x_4.add 1) (.int .i64 r25_1) w0_51 fun w0_52 =>
  St (x_4.add 2) (.slice r25_2_a r25_2_n r25_2_c) w0_52 fun w0_53 =>
  St (y_4.add 0) (.int .i64 r27_0_4) w0_53 fun w0_54 =>
  St (y_4.add 1) (.int .i64 r27_1_4) w0_54 fun w0_55 =>
  St (y_4.add 2) (.slice r27_2_a_4 r27_2_n_4 r27_2_c_4) w0_55 fun w0_56 =>
  herdsmanlaw2_TileSame.b4 Q at0 by0 one a_b x_4 y_4 w0_56)))) ∧
  ((Al T 24 w0_2.drew fun x_5 w0_57 =>
  w0_57.cell? (b_b.add 0) = some (.int .i64 x26_W) ∧
  w0_57.cell? (b_b.add 1) = some (.int .i64 x26_H) ∧
  w0_57.cell? (b_b.add 2) = some (.slice x26_C_a x26_C_n x26_C_c) ∧
  w0_57.cell? (a_b.add 0) = some (.int .i64 x24_W) ∧
  w0_57.cell? (a_b.add 1) = some (.int .i64 x24_H) ∧
  w0_57.cell? (a_b.add 2) = some (.slice x24_C_a x24_C_n x24_C_c) ∧
  (herdsmanref1_OwnTile.call x24_W x24_H x24_C_a x24_C_n x24_C_c w0_57 fun r25_0_1 r25_1_1 r25_2_a_1 r25_2_n_1 r25_2_c_1 w0_58 =>
  w0_58.cell? (b_b.add 0) = some (.int .i64 x26_W) ∧
  w0_58.cell? (b_b.add 1) = some (.int .i64 x26_H) ∧
  w0_58.cell? (b_b.add 2) = some (.slice x26_C_a x26_C_n x26_C_c) ∧
  (herdsmanref1_OwnTile.call x26_W x26_H x26_C_a x26_C_n x26_C_c w0_58 fun r27_0_5 r27_1_5 r27_2_a_5 r27_2_n_5 r27_2_c_5 w0_59 =>
  Al T 24 w0_59 fun y_5 w0_60 =>
  w0_60.cell? (b_b.add 0) = some (.int .i64 x26_W) ∧
  w0_60.cell? (b_b.add 1) = some (.int .i64 x26_H) ∧
  w0_60.cell? (b_b.add 2) = some (.slice x26_C_a x26_C_n x26_C_c) ∧
  w0_60.cell? (a_b.add 0) = some (.int .i64 x24_W) ∧
  w0_60.cell? (a_b.add 1) = some (.int .i64 x24_H) ∧
  w0_60.cell? (a_b.add 2) = some (.slice x24_C_a x24_C_n x24_C_c) ∧
  St (x_5.add 0) (.int .i64 r25_0_1) w0_60 fun w0_61 =>
  St (x_5.add 1) (.int .i64 r25_1_1) w0_61 fun w0_62 =>
  St (x_5.add 2) (.slice r25_2_a_1 r25_2_n_1 r25_2_c_1) w0_62 fun w0_63 =>
  St (y_5.add 0) (.int .i64 r27_0_5) w0_63 fun w0_64 =>
  St (y_5.add 1) (.int .i64 r27_1_5) w0_64 fun w0_65 =>
  St (y_5.add 2) (.slice r27_2_a_5 r27_2_n_5 r27_2_c_5) w0_65 fun w0_66 =>
  herdsmanlaw2_TileSame.b4 Q at0 by0 one a_b x_5 y_5 w0_66) ∧
  (Al T 24 w0_58 fun y_6 w0_67 =>
  w0_67.cell? (b_b.add 0) = some (.int .i64 x26_W) ∧
  w0_67.cell? (b_b.add 1) = some (.int .i64 x26_H) ∧
  w0_67.cell? (b_b.add 2) = some (.slice x26_C_a x26_C_n x26_C_c) ∧
  w0_67.cell? (a_b.add 0) = some (.int .i64 x24_W) ∧
  w0_67.cell? (a_b.add 1) = some (.int .i64 x24_H) ∧
  w0_67.cell? (a_b.add 2) = some (.slice x24_C_a x24_C_n x24_C_c) ∧
  herdsmanref1_OwnTile.call x26_W x26_H x26_C_a x26_C_n x26_C_c w0_67 fun r27_0_6 r27_1_6 r27_2_a_6 r27_2_n_6 r27_2_c_6 w0_68 =>
  St (x_5.add 0) (.int .i64 r25_0_1) w0_68 fun w0_69 =>
  St (x_5.add 1) (.int .i64 r25_1_1) w0_69 fun w0_70 =>
  St (x_5.add 2) (.slice r25_2_a_1 r25_2_n_1 r25_2_c_1) w0_70 fun w0_71 =>
  St (y_6.add 0) (.int .i64 r27_0_6) w0_71 fun w0_72 =>
  St (y_6.add 1) (.int .i64 r27_1_6) w0_72 fun w0_73 =>
  St (y_6.add 2) (.slice r27_2_a_6 r27_2_n_6 r27_2_c_6) w0_73 fun w0_74 =>
  herdsmanlaw2_TileSame.b4 Q at0 by0 one a_b x_5 y_6 w0_74)) ∧
  (Al T 24 w0_57 fun y_7 w0_75 =>
  w0_75.cell? (b_b.add 0) = some (.int .i64 x26_W) ∧
  w0_75.cell? (b_b.add 1) = some (.int .i64 x26_H) ∧
  w0_75.cell? (b_b.add 2) = some (.slice x26_C_a x26_C_n x26_C_c) ∧
  w0_75.cell? (a_b.add 0) = some (.int .i64 x24_W) ∧
  w0_75.cell? (a_b.add 1) = some (.int .i64 x24_H) ∧
  w0_75.cell? (a_b.add 2) = some (.slice x24_C_a x24_C_n x24_C_c) ∧
  herdsmanref1_OwnTile.call x24_W x24_H x24_C_a x24_C_n x24_C_c w0_75 fun r25_0_2 r25_1_2 r25_2_a_2 r25_2_n_2 r25_2_c_2 w0_76 =>
  w0_76.cell? (b_b.add 0) = some (.int .i64 x26_W) ∧
  w0_76.cell? (b_b.add 1) = some (.int .i64 x26_H) ∧
  w0_76.cell? (b_b.add 2) = some (.slice x26_C_a x26_C_n x26_C_c) ∧
  herdsmanref1_OwnTile.call x26_W x26_H x26_C_a x26_C_n x26_C_c w0_76 fun r27_0_7 r27_1_7 r27_2_a_7 r27_2_n_7 r27_2_c_7 w0_77 =>
  St (x_5.add 0) (.int .i64 r25_0_2) w0_77 fun w0_78 =>
  St (x_5.add 1) (.int .i64 r25_1_2) w0_78 fun w0_79 =>
  St (x_5.add 2) (.slice r25_2_a_2 r25_2_n_2 r25_2_c_2) w0_79 fun w0_80 =>
  St (y_7.add 0) (.int .i64 r27_0_7) w0_80 fun w0_81 =>
  St (y_7.add 1) (.int .i64 r27_1_7) w0_81 fun w0_82 =>
  St (y_7.add 2) (.slice r27_2_a_7 r27_2_n_7 r27_2_c_7) w0_82 fun w0_83 =>
  herdsmanlaw2_TileSame.b4 Q at0 by0 one a_b x_5 y_7 w0_83)) ∧
  (Al T 24 w0_2.drew fun y_8 w0_84 =>
  w0_84.cell? (b_b.add 0) = some (.int .i64 x26_W) ∧
  w0_84.cell? (b_b.add 1) = some (.int .i64 x26_H) ∧
  w0_84.cell? (b_b.add 2) = some (.slice x26_C_a x26_C_n x26_C_c) ∧
  w0_84.cell? (a_b.add 0) = some (.int .i64 x24_W) ∧
  w0_84.cell? (a_b.add 1) = some (.int .i64 x24_H) ∧
  w0_84.cell? (a_b.add 2) = some (.slice x24_C_a x24_C_n x24_C_c) ∧
  (herdsmanref1_OwnTile.call x24_W x24_H x24_C_a x24_C_n x24_C_c w0_84 fun r25_0_3 r25_1_3 r25_2_a_3 r25_2_n_3 r25_2_c_3 w0_85 =>
  w0_85.cell? (b_b.add 0) = some (.int .i64 x26_W) ∧
  w0_85.cell? (b_b.add 1) = some (.int .i64 x26_H) ∧
  w0_85.cell? (b_b.add 2) = some (.slice x26_C_a x26_C_n x26_C_c) ∧
  (herdsmanref1_OwnTile.call x26_W x26_H x26_C_a x26_C_n x26_C_c w0_85 fun r27_0_8 r27_1_8 r27_2_a_8 r27_2_n_8 r27_2_c_8 w0_86 =>
  Al T 24 w0_86 fun x_6 w0_87 =>
  w0_87.cell? (b_b.add 0) = some (.int .i64 x26_W) ∧
  w0_87.cell? (b_b.add 1) = some (.int .i64 x26_H) ∧
  w0_87.cell? (b_b.add 2) = some (.slice x26_C_a x26_C_n x26_C_c) ∧
  w0_87.cell? (a_b.add 0) = some (.int .i64 x24_W) ∧
  w0_87.cell? (a_b.add 1) = some (.int .i64 x24_H) ∧
  w0_87.cell? (a_b.add 2) = some (.slice x24_C_a x24_C_n x24_C_c) ∧
  St (x_6.add 0) (.int .i64 r25_0_3) w0_87 fun w0_88 =>
  St (x_6.add 1) (.int .i64 r25_1_3) w0_88 fun w0_89 =>
  St (x_6.add 2) (.slice r25_2_a_3 r25_2_n_3 r25_2_c_3) w0_89 fun w0_90 =>
  St (y_8.add 0) (.int .i64 r27_0_8) w0_90 fun w0_91 =>
  St (y_8.add 1) (.int .i64 r27_1_8) w0_91 fun w0_92 =>
  St (y_8.add 2) (.slice r27_2_a_8 r27_2_n_8 r27_2_c_8) w0_92 fun w0_93 =>
  herdsmanlaw2_TileSame.b4 Q at0 by0 one a_b x_6 y_8 w0_93) ∧
  (Al T 24 w0_85 fun x_7 w0_94 =>
  w0_94.cell? (b_b.add 0) = some (.int .i64 x26_W) ∧
  w0_94.cell? (b_b.add 1) = some (.int .i64 x26_H) ∧
  w0_94.cell? (b_b.add 2) = some (.slice x26_C_a x26_C_n x26_C_c) ∧
  w0_94.cell? (a_b.add 0) = some (.int .i64 x24_W) ∧
  w0_94.cell? (a_b.add 1) = some (.int .i64 x24_H) ∧
  w0_94.cell? (a_b.add 2) = some (.slice x24_C_a x24_C_n x24_C_c) ∧
  herdsmanref1_OwnTile.call x26_W x26_H x26_C_a x26_C_n x26_C_c w0_94 fun r27_0_9 r27_1_9 r27_2_a_9 r27_2_n_9 r27_2_c_9 w0_95 =>
  St (x_7.add 0) (.int .i64 r25_0_3) w0_95 fun w0_96 =>
  St (x_7.add 1) (.int .i64 r25_1_3) w0_96 fun w0_97 =>
  St (x_7.add 2) (.slice r25_2_a_3 r25_2_n_3 r25_2_c_3) w0_97 fun w0_98 =>
  St (y_8.add 0) (.int .i64 r27_0_9) w0_98 fun w0_99 =>
  St (y_8.add 1) (.int .i64 r27_1_9) w0_99 fun w0_100 =>
  St (y_8.add 2) (.slice r27_2_a_9 r27_2_n_9 r27_2_c_9) w0_100 fun w0_101 =>
  herdsmanlaw2_TileSame.b4 Q at0 by0 one a_b x_7 y_8 w0_101)) ∧
  (Al T 24 w0_84 fun x_8 w0_102 =>
  w0_102.cell? (b_b.add 0) = some (.int .i64 x26_W) ∧
  w0_102.cell? (b_b.add 1) = some (.int .i64 x26_H) ∧
  w0_102.cell? (b_b.add 2) = some (.slice x26_C_a x26_C_n x26_C_c) ∧
  w0_102.cell? (a_b.add 0) = some (.int .i64 x24_W) ∧
  w0_102.cell? (a_b.add 1) = some (.int .i64 x24_H) ∧
  w0_102.cell? (a_b.add 2) = some (.slice x24_C_a x24_C_n x24_C_c) ∧
  herdsmanref1_OwnTile.call x24_W x24_H x24_C_a x24_C_n x24_C_c w0_102 fun r25_0_4 r25_1_4 r25_2_a_4 r25_2_n_4 r25_2_c_4 w0_103 =>
  w0_103.cell? (b_b.add 0) = some (.int .i64 x26_W) ∧
  w0_103.cell? (b_b.add 1) = some (.int .i64 x26_H) ∧
  w0_103.cell? (b_b.add 2) = some (.slice x26_C_a x26_C_n x26_C_c) ∧
  herdsmanref1_OwnTile.call x26_W x26_H x26_C_a x26_C_n x26_C_c w0_103 fun r27_0_10 r27_1_10 r27_2_a_10 r27_2_n_10 r27_2_c_10 w0_104 =>
  St (x_8.add 0) (.int .i64 r25_0_4) w0_104 fun w0_105 =>
  St (x_8.add 1) (.int .i64 r25_1_4) w0_105 fun w0_106 =>
  St (x_8.add 2) (.slice r25_2_a_4 r25_2_n_4 r25_2_c_4) w0_106 fun w0_107 =>
  St (y_8.add 0) (.int .i64 r27_0_10) w0_107 fun w0_108 =>
  St (y_8.add 1) (.int .i64 r27_1_10) w0_108 fun w0_109 =>
  St (y_8.add 2) (.slice r27_2_a_10 r27_2_n_10 r27_2_c_10) w0_109 fun w0_110 =>
  herdsmanlaw2_TileSame.b4 Q at0 by0 one a_b x_8 y_8 w0_110)))))
noncomputable def herdsmanlaw2_TileSame.scr : Scrs := [(3, .op 0 (.op 2 (.br (.op 1 (.br (.op 3 (.br (.op 4 (.op 5 (.op 6 (.op 7 .done)))) (.op 5 (.op 4 (.op 6 (.op 7 .done)))))) (.br (.op 4 (.br (.op 3 (.op 5 (.op 6 (.op 7 .done)))) (.op 5 (.op 3 (.op 6 (.op 7 .done)))))) (.op 5 (.br (.op 3 (.op 4 (.op 6 (.op 7 .done)))) (.op 4 (.op 3 (.op 6 (.op 7 .done))))))))) (.br (.op 4 (.br (.op 1 (.br (.op 3 (.op 5 (.op 6 (.op 7 .done)))) (.op 5 (.op 3 (.op 6 (.op 7 .done)))))) (.op 5 (.op 1 (.op 3 (.op 6 (.op 7 .done))))))) (.op 5 (.br (.op 1 (.br (.op 3 (.op 4 (.op 6 (.op 7 .done)))) (.op 4 (.op 3 (.op 6 (.op 7 .done)))))) (.op 4 (.op 1 (.op 3 (.op 6 (.op 7 .done))))))))))), (7, .op 0 (.op 1 (.op 2 (.op 3 (.op 4 (.op 5 (.op 6 (.op 10 (.op 7 (.op 8 (.op 9 (.op 11 (.op 12 (.op 13 .done)))))))))))))), (8, .op 0 (.op 1 (.op 2 (.op 3 (.op 5 (.op 6 (.op 4 (.op 7 (.op 8 (.op 9 (.op 10 (.op 11 (.op 12 (.op 14 (.op 15 (.op 13 (.op 16 (.op 17 (.op 18 (.op 19 (.op 20 (.op 21 (.op 22 (.op 23 (.op 24 .done)))))))))))))))))))))))))]
def herdsmanlaw2_TileSame.R (Q : Bool → World → Prop) (ρ : Env) (w : World) : Prop := evRes (cx 72) Go.Proofs.Try.f5.results.toList ρ w fun vs => herdsmanlaw2_TileSame.qv Q (resV vs) w
def herdsmanlaw2_TileSame.d4 (K : Int → Int → Bool → Addr → Addr → Addr → Prop) (ρ : Env) : Prop :=
  dI .i64 (ρ 2) fun at0 => dI .u8 (ρ 3) fun by0 => dB (ρ 4) fun one => dP (ρ 5) fun a_p => wA a_p fun a => dP (ρ 11) fun x_p => wA x_p fun x => dP (ρ 12) fun y_p => wA y_p fun y => K at0 by0 one a x y
theorem herdsmanlaw2_TileSame.d4_elim {K : Int → Int → Bool → Addr → Addr → Addr → Prop} {ρ : Env} (h0 : herdsmanlaw2_TileSame.d4 K ρ) : ∃ (at0 : Int) (by0 : Int) (one : Bool) (a : Addr) (x : Addr) (y : Addr), ρ 2 = .int .i64 at0 ∧ ρ 3 = .int .u8 by0 ∧ ρ 4 = .bool one ∧ ρ 5 = .pointer (some a) ∧ ρ 11 = .pointer (some x) ∧ ρ 12 = .pointer (some y) ∧ K at0 by0 one a x y := by
  obtain ⟨at0, e2, h1⟩ := dI_elim h0
  obtain ⟨by0, e3, h2⟩ := dI_elim h1
  obtain ⟨one, e4, h3⟩ := dB_elim h2
  obtain ⟨a_p, e5, h4⟩ := dP_elim h3
  obtain ⟨a, rfl, h5⟩ := wA_elim h4
  obtain ⟨x_p, e11, h6⟩ := dP_elim h5
  obtain ⟨x, rfl, h7⟩ := wA_elim h6
  obtain ⟨y_p, e12, h8⟩ := dP_elim h7
  obtain ⟨y, rfl, h9⟩ := wA_elim h8
  exact ⟨at0, by0, one, a, x, y, e2, e3, e4, e5, e11, e12, h9⟩
def herdsmanlaw2_TileSame.d8 (K : Addr → Addr → Prop) (ρ : Env) : Prop :=
  dP (ρ 11) fun x_p => wA x_p fun x => dP (ρ 12) fun y_p => wA y_p fun y => K x y
theorem herdsmanlaw2_TileSame.d8_elim {K : Addr → Addr → Prop} {ρ : Env} (h0 : herdsmanlaw2_TileSame.d8 K ρ) : ∃ (x : Addr) (y : Addr), ρ 11 = .pointer (some x) ∧ ρ 12 = .pointer (some y) ∧ K x y := by
  obtain ⟨x_p, e11, h1⟩ := dP_elim h0
  obtain ⟨x, rfl, h2⟩ := wA_elim h1
  obtain ⟨y_p, e12, h3⟩ := dP_elim h2
  obtain ⟨y, rfl, h4⟩ := wA_elim h3
  exact ⟨x, y, e11, e12, h4⟩
set_option maxRecDepth 100000 in
theorem herdsmanlaw2_TileSame.f8 (Q : Bool → World → Prop) : ∀ x y w, herdsmanlaw2_TileSame.b8 Q x y w → ∀ ρ : Env, ρ 11 = .pointer (some x) → ρ 12 = .pointer (some y) → Fin (cx 72) (todoOf Go.Proofs.Try.f5 8) ρ w (herdsmanlaw2_TileSame.R Q) := by
  intro x y w h ρ e11 e12
  refine Fin.cut (ρ' := put (put (ρ) (some 11) (.pointer (some x))) (some 12) (.pointer (some y))) ?_ (by rw [put_id e11, put_id e12])
  refine evT_sound (ok 72) (drawD_sound (ok 72) herdsmanlaw2_TileSame.scr) 600 (L := []) (leaf_of (fn := Go.Proofs.Try.f5) [] (by kernel_rfl) trivial) (castK h (by kernel_rfl))
set_option maxRecDepth 100000 in
theorem herdsmanlaw2_TileSame.f4 (Q : Bool → World → Prop) : ∀ at0 by0 one a x y w, herdsmanlaw2_TileSame.b4 Q at0 by0 one a x y w → ∀ ρ : Env, ρ 2 = .int .i64 at0 → ρ 3 = .int .u8 by0 → ρ 4 = .bool one → ρ 5 = .pointer (some a) → ρ 11 = .pointer (some x) → ρ 12 = .pointer (some y) → Fin (cx 72) (todoOf Go.Proofs.Try.f5 4) ρ w (herdsmanlaw2_TileSame.R Q) := by
  intro at0 by0 one a x y w h ρ e2 e3 e4 e5 e11 e12
  refine Fin.cut (ρ' := put (put (put (put (put (put (ρ) (some 2) (.int .i64 at0)) (some 3) (.int .u8 by0)) (some 4) (.bool one)) (some 5) (.pointer (some a))) (some 11) (.pointer (some x))) (some 12) (.pointer (some y))) ?_ (by rw [put_id e2, put_id e3, put_id e4, put_id e5, put_id e11, put_id e12])
  refine evT_sound (ok 72) (drawD_sound (ok 72) herdsmanlaw2_TileSame.scr) 600 (L := [(8, fun ρ w => herdsmanlaw2_TileSame.d8 (fun x y => herdsmanlaw2_TileSame.b8 Q x y w) ρ)]) (leaf_of (fn := Go.Proofs.Try.f5) [8, 8, 8] (by kernel_rfl) ⟨fun ρ w h => by obtain ⟨x, y, e11, e12, h⟩ := herdsmanlaw2_TileSame.d8_elim (ρ := ρ) h; exact herdsmanlaw2_TileSame.f8 Q x y w h ρ e11 e12, trivial⟩) (castK h (by kernel_rfl))
set_option maxRecDepth 100000 in
theorem herdsmanlaw2_TileSame.body (a_W : Int) (a_H : Int) (a_C_a : Option Addr) (a_C_n : Nat) (a_C_c : Nat) (b_W : Int) (b_H : Int) (b_C_a : Option Addr) (b_C_n : Nat) (b_C_c : Nat) (at0 : Int) (by0 : Int) (one : Bool) (w : World) (Q : Bool → World → Prop) (h : herdsmanlaw2_TileSame.sh a_W a_H a_C_a a_C_n a_C_c b_W b_H b_C_a b_C_n b_C_c at0 by0 one w Q) : herdsmanlaw2_TileSame.call a_W a_H a_C_a a_C_n a_C_c b_W b_H b_C_a b_C_n b_C_c at0 by0 one w Q := by
  refine call_fn (ok 72) (fn := Go.Proofs.Try.f5) (args := [.agg #[.int .i64 a_W, .int .i64 a_H, .slice a_C_a a_C_n a_C_c], .agg #[.int .i64 b_W, .int .i64 b_H, .slice b_C_a b_C_n b_C_c], .int .i64 at0, .int .u8 by0, .bool one]) (K := herdsmanlaw2_TileSame.qv Q) Go.Proofs.Try.func5 (by kernel_rfl) (by kernel_rfl) (by kernel_rfl) ?_
  refine evT_sound (ok 72) (drawD_sound (ok 72) herdsmanlaw2_TileSame.scr) 600 (L := [(4, fun ρ w => herdsmanlaw2_TileSame.d4 (fun at0 by0 one a x y => herdsmanlaw2_TileSame.b4 Q at0 by0 one a x y w) ρ)]) (leaf_of (fn := Go.Proofs.Try.f5) [4] (by kernel_rfl) ⟨fun ρ w h => by obtain ⟨at0, by0, one, a, x, y, e2, e3, e4, e5, e11, e12, h⟩ := herdsmanlaw2_TileSame.d4_elim (ρ := ρ) h; exact herdsmanlaw2_TileSame.f4 Q at0 by0 one a x y w h ρ e2 e3 e4 e5 e11 e12, trivial⟩) (castK h (by kernel_rfl))
end Go.Proofs.Ytbecldlnajlnnaa.S
