/- What the bodies ask, and that a call is no more. Printed by a program of this work (sxgen.py) out of the translation. -/
import Derived.Test.YtbecldlnajlnnaaXT
set_option linter.unusedVariables false
set_option linter.unusedSimpArgs false
namespace Go.Proofs.Ytbecldlnajlnnaa.S
open Go.Sx
/-! ### 32 slices.Clone[[]byte,byte] -/
def slices_Clone_byte_byte.sh (s_a : Option Addr) (s_n : Nat) (s_c : Nat) (w : World) (Q : Option Addr → Nat → Nat → World → Prop) : Prop :=
  cond s_a.isNone
  (Q none 0 0 w)
  (Bx [] 5 w fun p5_s w0_1 =>
  App P #[22, 22] 22 (.slice (some p5_s) 0 0) (.slice s_a s_n s_c) w0_1 fun r7_a r7_n r7_c w0_2 =>
  Q r7_a r7_n r7_c w0_2)
noncomputable def slices_Clone_byte_byte.scr : Scrs := []
def slices_Clone_byte_byte.R (Q : Option Addr → Nat → Nat → World → Prop) (ρ : Env) (w : World) : Prop := evRes (cx 8) Go.Proofs.Try.f32.results.toList ρ w fun vs => slices_Clone_byte_byte.qv Q (resV vs) w
set_option maxRecDepth 100000 in
theorem slices_Clone_byte_byte.body (s_a : Option Addr) (s_n : Nat) (s_c : Nat) (w : World) (Q : Option Addr → Nat → Nat → World → Prop) (h : slices_Clone_byte_byte.sh s_a s_n s_c w Q) : slices_Clone_byte_byte.call s_a s_n s_c w Q := by
  refine call_fn (ok 8) (fn := Go.Proofs.Try.f32) (args := [.slice s_a s_n s_c]) (K := slices_Clone_byte_byte.qv Q) Go.Proofs.Try.func32 (by kernel_rfl) (by kernel_rfl) (by kernel_rfl) ?_
  refine evT_sound (ok 8) (drawD_sound (ok 8) slices_Clone_byte_byte.scr) 600 (L := []) (leaf_of (fn := Go.Proofs.Try.f32) [] (by kernel_rfl) trivial) (castK h (by kernel_rfl))
/-! ### 23 herdsman/tile.With -/
def tile_With.b2 (Q : Int → Int → Option Addr → Nat → Nat → Bool → World → Prop) (t6 : Addr) (w : World) : Prop :=
  St (t6.add 0) (.int .i64 0) w fun w0_1 =>
  St (t6.add 1) (.int .i64 0) w0_1 fun w0_2 =>
  St (t6.add 2) (.slice none 0 0) w0_2 fun w0_3 =>
  LdI .i64 (t6.add 0) w0_3 fun r6_W =>
  LdI .i64 (t6.add 1) w0_3 fun r6_H =>
  LdS (t6.add 2) w0_3 fun r6_C_a r6_C_n r6_C_c =>
  Q r6_W r6_H r6_C_a r6_C_n r6_C_c false w0_3
def tile_With.sh (t_W : Int) (t_H : Int) (t_C_a : Option Addr) (t_C_n : Nat) (t_C_c : Nat) (local0 : Int) (cost : Int) (w : World) (Q : Int → Int → Option Addr → Nat → Nat → Bool → World → Prop) : Prop :=
  Bx [.int .i64 t_W, .int .i64 t_H, .slice t_C_a t_C_n t_C_c] 24 w fun t_b w0_1 =>
  Al T 24 w0_1 fun p6 w0_2 =>
  LdI .i64 (t_b.add 0) w0_2 fun x8_W =>
  LdI .i64 (t_b.add 1) w0_2 fun x8_H =>
  LdS (t_b.add 2) w0_2 fun x8_C_a x8_C_n x8_C_c =>
  tile_is.call x8_W x8_H x8_C_a x8_C_n x8_C_c local0 w0_2 fun r10 w0_3 =>
  cond (!r10)
  (tile_With.b2 Q p6 w0_3)
  (cond (decide (cost < 1))
  (tile_With.b2 Q p6 w0_3)
  (cond (decide (cost > 255))
  (tile_With.b2 Q p6 w0_3)
  (LdS (t_b.add 2) w0_3 fun x22_a x22_n x22_c =>
  slices_Clone_byte_byte.call x22_a x22_n x22_c w0_3 fun r23_a r23_n r23_c w0_4 =>
  St (t_b.add 2) (.slice r23_a r23_n r23_c) w0_4 fun w0_5 =>
  LdS (t_b.add 2) w0_5 fun x26_a x26_n x26_c =>
  InB local0 x26_n <|
  wA x26_a fun p =>
  St (p.add (local0.toNat * 1)) (.int .u8 (IntKind.wrap .u8 cost)) w0_5 fun w0_6 =>
  LdI .i64 (t_b.add 0) w0_6 fun x31_W =>
  LdI .i64 (t_b.add 1) w0_6 fun x31_H =>
  LdS (t_b.add 2) w0_6 fun x31_C_a x31_C_n x31_C_c =>
  St (p6.add 0) (.int .i64 x31_W) w0_6 fun w0_7 =>
  St (p6.add 1) (.int .i64 x31_H) w0_7 fun w0_8 =>
  St (p6.add 2) (.slice x31_C_a x31_C_n x31_C_c) w0_8 fun w0_9 =>
  LdI .i64 (p6.add 0) w0_9 fun r6_W =>
  LdI .i64 (p6.add 1) w0_9 fun r6_H =>
  LdS (p6.add 2) w0_9 fun r6_C_a r6_C_n r6_C_c =>
  Q r6_W r6_H r6_C_a r6_C_n r6_C_c true w0_9)))
noncomputable def tile_With.scr : Scrs := []
def tile_With.R (Q : Int → Int → Option Addr → Nat → Nat → Bool → World → Prop) (ρ : Env) (w : World) : Prop := evRes (cx 32) Go.Proofs.Try.f23.results.toList ρ w fun vs => tile_With.qv Q (resV vs) w
def tile_With.d2 (K : Addr → Prop) (ρ : Env) : Prop :=
  dP (ρ 6) fun t6_p => wA t6_p fun t6 => K t6
theorem tile_With.d2_elim {K : Addr → Prop} {ρ : Env} (h0 : tile_With.d2 K ρ) : ∃ (t6 : Addr), ρ 6 = .pointer (some t6) ∧ K t6 := by
  obtain ⟨t6_p, e6, h1⟩ := dP_elim h0
  obtain ⟨t6, rfl, h2⟩ := wA_elim h1
  exact ⟨t6, e6, h2⟩
set_option maxRecDepth 100000 in
theorem tile_With.f2 (Q : Int → Int → Option Addr → Nat → Nat → Bool → World → Prop) : ∀ t6 w, tile_With.b2 Q t6 w → ∀ ρ : Env, ρ 6 = .pointer (some t6) → Fin (cx 32) (todoOf Go.Proofs.Try.f23 2) ρ w (tile_With.R Q) := by
  intro t6 w h ρ e6
  refine Fin.cut (ρ' := put (ρ) (some 6) (.pointer (some t6))) ?_ (by rw [put_id e6])
  refine evT_sound (ok 32) (drawD_sound (ok 32) tile_With.scr) 600 (L := []) (leaf_of (fn := Go.Proofs.Try.f23) [] (by kernel_rfl) trivial) (castK h (by kernel_rfl))
set_option maxRecDepth 100000 in
theorem tile_With.body (t_W : Int) (t_H : Int) (t_C_a : Option Addr) (t_C_n : Nat) (t_C_c : Nat) (local0 : Int) (cost : Int) (w : World) (Q : Int → Int → Option Addr → Nat → Nat → Bool → World → Prop) (h : tile_With.sh t_W t_H t_C_a t_C_n t_C_c local0 cost w Q) : tile_With.call t_W t_H t_C_a t_C_n t_C_c local0 cost w Q := by
  refine call_fn (ok 32) (fn := Go.Proofs.Try.f23) (args := [.agg #[.int .i64 t_W, .int .i64 t_H, .slice t_C_a t_C_n t_C_c], .int .i64 local0, .int .i64 cost]) (K := tile_With.qv Q) Go.Proofs.Try.func23 (by kernel_rfl) (by kernel_rfl) (by kernel_rfl) ?_
  refine evT_sound (ok 32) (drawD_sound (ok 32) tile_With.scr) 600 (L := [(2, fun ρ w => tile_With.d2 (fun t6 => tile_With.b2 Q t6 w) ρ)]) (leaf_of (fn := Go.Proofs.Try.f23) [2] (by kernel_rfl) ⟨fun ρ w h => by obtain ⟨t6, e6, h⟩ := tile_With.d2_elim (ρ := ρ) h; exact tile_With.f2 Q t6 w h ρ e6, trivial⟩) (castK h (by kernel_rfl))
/-! ### 6 herdsman/herdsmanlaw2.TileLays -/
def herdsmanlaw2_TileLays.s14 (Q : Bool → World → Prop) (R14 : Int → Int → Addr → Addr → Int → World → Prop) (local0 : Int) (cost : Int) (x : Addr) (y : Addr) (i : Int) (w : World) : Prop :=
  LdS (x.add 2) w fun x98_a x98_n x98_c =>
  cond (decide (i < (x98_n : Int)))
  (cond (i != local0)
  (LdI .i64 (y.add 0) w.drew fun x107_W =>
  LdI .i64 (y.add 1) w.drew fun x107_H =>
  LdS (y.add 2) w.drew fun x107_C_a x107_C_n x107_C_c =>
  LdI .i64 (x.add 0) w.drew fun x110_W =>
  LdI .i64 (x.add 1) w.drew fun x110_H =>
  LdS (x.add 2) w.drew fun x110_C_a x110_C_n x110_C_c =>
  tile_At.call x107_W x107_H x107_C_a x107_C_n x107_C_c i w.drew fun r109 w0_1 =>
  w0_1.cell? (x.add 0) = some (.int .i64 x110_W) ∧
  w0_1.cell? (x.add 1) = some (.int .i64 x110_H) ∧
  w0_1.cell? (x.add 2) = some (.slice x110_C_a x110_C_n x110_C_c) ∧
  tile_At.call x110_W x110_H x110_C_a x110_C_n x110_C_c i w0_1 fun r112 w0_2 =>
  cond (r109 != r112)
  (Q false w0_2)
  (R14 local0 cost x y (IntKind.wrap .i64 (i + 1)) w0_2))
  (R14 local0 cost x y (IntKind.wrap .i64 (i + 1)) w.drew))
  (herdsmanlaw2_told.call w fun r115 w0_3 =>
  cond r115
  (LdI .i64 (y.add 0) w0_3 fun x117_W =>
  LdI .i64 (y.add 1) w0_3 fun x117_H =>
  LdS (y.add 2) w0_3 fun x117_C_a x117_C_n x117_C_c =>
  tile_May.call x117_W x117_H x117_C_a x117_C_n x117_C_c w0_3 fun r118 w0_4 =>
  cond r118
  (LdI .i64 y w0_4 fun x122 =>
  LdI .i64 x w0_4 fun x124 =>
  cond (x122 == x124)
  (LdI .i64 (y.add 1) w0_4 fun x129 =>
  LdI .i64 (x.add 1) w0_4 fun x131 =>
  cond (x129 == x131)
  (LdI .i64 (y.add 0) w0_4 fun x135_W =>
  LdI .i64 (y.add 1) w0_4 fun x135_H =>
  LdS (y.add 2) w0_4 fun x135_C_a x135_C_n x135_C_c =>
  tile_At.call x135_W x135_H x135_C_a x135_C_n x135_C_c local0 w0_4 fun r137 w0_5 =>
  Q (r137 == cost) w0_5)
  (Q false w0_4))
  (Q false w0_4))
  (Q false w0_4))
  (Q false w0_3))
def herdsmanlaw2_TileLays.b14 (Q : Bool → World → Prop) : Nat → Int → Int → Addr → Addr → Int → World → Prop
  | 0, _, _, _, _, _, _ => False
  | k + 1, local0, cost, x, y, i, w => herdsmanlaw2_TileLays.s14 Q (herdsmanlaw2_TileLays.b14 Q k) local0 cost x y i w
def herdsmanlaw2_TileLays.b9 (Q : Bool → World → Prop) (local0 : Int) (cost : Int) (x : Addr) (was : Addr) (y : Addr) (ok0 : Bool) (may : Bool) (w : World) : Prop :=
  cond (!(ok0 == may))
  (Q false w)
  (LdI .i64 (x.add 0) w fun x72_W =>
  LdI .i64 (x.add 1) w fun x72_H =>
  LdS (x.add 2) w fun x72_C_a x72_C_n x72_C_c =>
  LdI .i64 (was.add 0) w fun x73_W =>
  LdI .i64 (was.add 1) w fun x73_H =>
  LdS (was.add 2) w fun x73_C_a x73_C_n x73_C_c =>
  herdsmanref1_SameTile.call x72_W x72_H x72_C_a x72_C_n x72_C_c x73_W x73_H x73_C_a x73_C_n x73_C_c w fun r74 w0_1 =>
  cond (!r74)
  (Q false w0_1)
  (cond (!ok0)
  (herdsmanlaw2_told.call w0_1 fun r79 w0_2 =>
  cond r79
  (LdI .i64 y w0_2 fun x82 =>
  cond (x82 == 0)
  (LdI .i64 (y.add 1) w0_2 fun x87 =>
  cond (x87 == 0)
  (LdS (y.add 2) w0_2 fun x92_a x92_n x92_c =>
  Q ((x92_n : Int) == 0) w0_2)
  (Q false w0_2))
  (Q false w0_2))
  (Q false w0_2))
  (∃ k', herdsmanlaw2_TileLays.b14 Q k' local0 cost x y 0 w0_1)))
def herdsmanlaw2_TileLays.b6 (Q : Bool → World → Prop) (local0 : Int) (cost : Int) (x : Addr) (w : World) : Prop :=
  LdI .i64 (x.add 0) w fun x38_W =>
  LdI .i64 (x.add 1) w fun x38_H =>
  LdS (x.add 2) w fun x38_C_a x38_C_n x38_C_c =>
  herdsmanref1_OwnTile.call x38_W x38_H x38_C_a x38_C_n x38_C_c w fun r39_0 r39_1 r39_2_a r39_2_n r39_2_c w0_1 =>
  Al T 24 w0_1 fun was w0_2 =>
  St (was.add 0) (.int .i64 r39_0) w0_2 fun w0_3 =>
  St (was.add 1) (.int .i64 r39_1) w0_3 fun w0_4 =>
  St (was.add 2) (.slice r39_2_a r39_2_n r39_2_c) w0_4 fun w0_5 =>
  LdI .i64 (x.add 0) w0_5 fun x41_W =>
  LdI .i64 (x.add 1) w0_5 fun x41_H =>
  LdS (x.add 2) w0_5 fun x41_C_a x41_C_n x41_C_c =>
  tile_With.call x41_W x41_H x41_C_a x41_C_n x41_C_c local0 cost w0_5 fun r44_0_0 r44_0_1 r44_0_2_a r44_0_2_n r44_0_2_c r44_1 w0_6 =>
  Al T 24 w0_6 fun y w0_7 =>
  St (y.add 0) (.int .i64 r44_0_0) w0_7 fun w0_8 =>
  St (y.add 1) (.int .i64 r44_0_1) w0_8 fun w0_9 =>
  St (y.add 2) (.slice r44_0_2_a r44_0_2_n r44_0_2_c) w0_9 fun w0_10 =>
  LdI .i64 (x.add 0) w0_10 fun x47_W =>
  LdI .i64 (x.add 1) w0_10 fun x47_H =>
  LdS (x.add 2) w0_10 fun x47_C_a x47_C_n x47_C_c =>
  tile_May.call x47_W x47_H x47_C_a x47_C_n x47_C_c w0_10 fun r48 w0_11 =>
  cond r48
  (cond (decide (local0 ≥ 0))
  (LdS (x.add 2) w0_11 fun x56_a x56_n x56_c =>
  cond (decide (local0 < (x56_n : Int)))
  (cond (decide (cost ≥ 1))
  (herdsmanlaw2_TileLays.b9 Q local0 cost x was y r44_1 (decide (cost ≤ 255)) w0_11)
  (herdsmanlaw2_TileLays.b9 Q local0 cost x was y r44_1 false w0_11))
  (herdsmanlaw2_TileLays.b9 Q local0 cost x was y r44_1 false w0_11))
  (herdsmanlaw2_TileLays.b9 Q local0 cost x was y r44_1 false w0_11))
  (herdsmanlaw2_TileLays.b9 Q local0 cost x was y r44_1 false w0_11)
def herdsmanlaw2_TileLays.sh (t_W : Int) (t_H : Int) (t_C_a : Option Addr) (t_C_n : Nat) (t_C_c : Nat) (w0_1 : Int) (h0 : Int) (local0 : Int) (cost : Int) (raw : Bool) (w : World) (Q : Bool → World → Prop) : Prop :=
  Bx [.int .i64 t_W, .int .i64 t_H, .slice t_C_a t_C_n t_C_c] 24 w fun t_b w0_2 =>
  LdS (t_b.add 2) w0_2 fun x20_a x20_n x20_c =>
  cond (decide ((x20_n : Int) > 600))
  (herdsmanlaw2_told.call w0_2 fun r23 w0_3 =>
  Q r23 w0_3)
  (LdI .i64 (t_b.add 0) w0_2 fun x24_W =>
  LdI .i64 (t_b.add 1) w0_2 fun x24_H =>
  LdS (t_b.add 2) w0_2 fun x24_C_a x24_C_n x24_C_c =>
  herdsmanlaw2_near.call x24_W x24_H x24_C_a x24_C_n x24_C_c w0_1 h0 raw w0_2 fun r28_0 r28_1 r28_2_a r28_2_n r28_2_c w0_4 =>
  Al T 24 w0_4 fun x w0_5 =>
  St (x.add 0) (.int .i64 r28_0) w0_5 fun w0_6 =>
  St (x.add 1) (.int .i64 r28_1) w0_6 fun w0_7 =>
  St (x.add 2) (.slice r28_2_a r28_2_n r28_2_c) w0_7 fun w0_8 =>
  cond (!raw)
  (LdS (x.add 2) w0_8 fun x33_a x33_n x33_c =>
  herdsmanref1_Within.call local0 (-1) (x33_n : Int) w0_8 fun r35 w0_9 =>
  herdsmanref1_Within.call cost 0 256 w0_9 fun r37 w0_10 =>
  herdsmanlaw2_TileLays.b6 Q r35 r37 x w0_10)
  (herdsmanlaw2_TileLays.b6 Q local0 cost x w0_8))
noncomputable def herdsmanlaw2_TileLays.scr : Scrs := [(16, .op 0 (.op 1 (.op 2 (.op 3 (.op 4 (.op 5 (.op 7 (.op 8 (.op 6 (.op 9 (.op 10 (.op 11 .done))))))))))))]
def herdsmanlaw2_TileLays.R (Q : Bool → World → Prop) (ρ : Env) (w : World) : Prop := evRes (cx 141) Go.Proofs.Try.f6.results.toList ρ w fun vs => herdsmanlaw2_TileLays.qv Q (resV vs) w
def herdsmanlaw2_TileLays.d6 (K : Int → Int → Addr → Prop) (ρ : Env) : Prop :=
  dI .i64 (ρ 3) fun local0 => dI .i64 (ρ 4) fun cost => dP (ρ 13) fun x_p => wA x_p fun x => K local0 cost x
theorem herdsmanlaw2_TileLays.d6_elim {K : Int → Int → Addr → Prop} {ρ : Env} (h0 : herdsmanlaw2_TileLays.d6 K ρ) : ∃ (local0 : Int) (cost : Int) (x : Addr), ρ 3 = .int .i64 local0 ∧ ρ 4 = .int .i64 cost ∧ ρ 13 = .pointer (some x) ∧ K local0 cost x := by
  obtain ⟨local0, e3, h1⟩ := dI_elim h0
  obtain ⟨cost, e4, h2⟩ := dI_elim h1
  obtain ⟨x_p, e13, h3⟩ := dP_elim h2
  obtain ⟨x, rfl, h4⟩ := wA_elim h3
  exact ⟨local0, cost, x, e3, e4, e13, h4⟩
def herdsmanlaw2_TileLays.d9 (K : Int → Int → Addr → Addr → Addr → Bool → Bool → Prop) (ρ : Env) : Prop :=
  dI .i64 (ρ 3) fun local0 => dI .i64 (ρ 4) fun cost => dP (ρ 13) fun x_p => wA x_p fun x => dP (ρ 14) fun was_p => wA was_p fun was => dP (ρ 15) fun y_p => wA y_p fun y => dB (ρ 16) fun ok0 => dB (ρ 17) fun may => K local0 cost x was y ok0 may
theorem herdsmanlaw2_TileLays.d9_elim {K : Int → Int → Addr → Addr → Addr → Bool → Bool → Prop} {ρ : Env} (h0 : herdsmanlaw2_TileLays.d9 K ρ) : ∃ (local0 : Int) (cost : Int) (x : Addr) (was : Addr) (y : Addr) (ok0 : Bool) (may : Bool), ρ 3 = .int .i64 local0 ∧ ρ 4 = .int .i64 cost ∧ ρ 13 = .pointer (some x) ∧ ρ 14 = .pointer (some was) ∧ ρ 15 = .pointer (some y) ∧ ρ 16 = .bool ok0 ∧ ρ 17 = .bool may ∧ K local0 cost x was y ok0 may := by
  obtain ⟨local0, e3, h1⟩ := dI_elim h0
  obtain ⟨cost, e4, h2⟩ := dI_elim h1
  obtain ⟨x_p, e13, h3⟩ := dP_elim h2
  obtain ⟨x, rfl, h4⟩ := wA_elim h3
  obtain ⟨was_p, e14, h5⟩ := dP_elim h4
  obtain ⟨was, rfl, h6⟩ := wA_elim h5
  obtain ⟨y_p, e15, h7⟩ := dP_elim h6
  obtain ⟨y, rfl, h8⟩ := wA_elim h7
  obtain ⟨ok0, e16, h9⟩ := dB_elim h8
  obtain ⟨may, e17, h10⟩ := dB_elim h9
  exact ⟨local0, cost, x, was, y, ok0, may, e3, e4, e13, e14, e15, e16, e17, h10⟩
def herdsmanlaw2_TileLays.d14 (K : Int → Int → Addr → Addr → Int → Prop) (ρ : Env) : Prop :=
  dI .i64 (ρ 3) fun local0 => dI .i64 (ρ 4) fun cost => dP (ρ 13) fun x_p => wA x_p fun x => dP (ρ 15) fun y_p => wA y_p fun y => dI .i64 (ρ 18) fun i => K local0 cost x y i
theorem herdsmanlaw2_TileLays.d14_elim {K : Int → Int → Addr → Addr → Int → Prop} {ρ : Env} (h0 : herdsmanlaw2_TileLays.d14 K ρ) : ∃ (local0 : Int) (cost : Int) (x : Addr) (y : Addr) (i : Int), ρ 3 = .int .i64 local0 ∧ ρ 4 = .int .i64 cost ∧ ρ 13 = .pointer (some x) ∧ ρ 15 = .pointer (some y) ∧ ρ 18 = .int .i64 i ∧ K local0 cost x y i := by
  obtain ⟨local0, e3, h1⟩ := dI_elim h0
  obtain ⟨cost, e4, h2⟩ := dI_elim h1
  obtain ⟨x_p, e13, h3⟩ := dP_elim h2
  obtain ⟨x, rfl, h4⟩ := wA_elim h3
  obtain ⟨y_p, e15, h5⟩ := dP_elim h4
  obtain ⟨y, rfl, h6⟩ := wA_elim h5
  obtain ⟨i, e18, h7⟩ := dI_elim h6
  exact ⟨local0, cost, x, y, i, e3, e4, e13, e15, e18, h7⟩
set_option maxRecDepth 100000 in
theorem herdsmanlaw2_TileLays.f14 (Q : Bool → World → Prop) : ∀ k local0 cost x y i w, herdsmanlaw2_TileLays.b14 Q k local0 cost x y i w → ∀ ρ : Env, ρ 3 = .int .i64 local0 → ρ 4 = .int .i64 cost → ρ 13 = .pointer (some x) → ρ 15 = .pointer (some y) → ρ 18 = .int .i64 i → Fin (cx 141) (todoOf Go.Proofs.Try.f6 14) ρ w (herdsmanlaw2_TileLays.R Q) := by
  intro k
  induction k with
  | zero => intro local0 cost x y i w h; exact h.elim
  | succ k ih =>
    intro local0 cost x y i w h ρ e3 e4 e13 e15 e18
    have h : herdsmanlaw2_TileLays.s14 Q (herdsmanlaw2_TileLays.b14 Q k) local0 cost x y i w := h
    refine Fin.cut (ρ' := put (put (put (put (put (ρ) (some 3) (.int .i64 local0)) (some 4) (.int .i64 cost)) (some 13) (.pointer (some x))) (some 15) (.pointer (some y))) (some 18) (.int .i64 i)) ?_ (by rw [put_id e3, put_id e4, put_id e13, put_id e15, put_id e18])
    refine evT_sound (ok 141) (drawD_sound (ok 141) herdsmanlaw2_TileLays.scr) 600 (L := [(14, fun ρ w => herdsmanlaw2_TileLays.d14 (fun local0 cost x y i => herdsmanlaw2_TileLays.b14 Q k local0 cost x y i w) ρ)]) (leaf_of (fn := Go.Proofs.Try.f6) [14] (by kernel_rfl) ⟨fun ρ w h => by obtain ⟨local0, cost, x, y, i, e3, e4, e13, e15, e18, h⟩ := herdsmanlaw2_TileLays.d14_elim (ρ := ρ) h; exact ih local0 cost x y i w h ρ e3 e4 e13 e15 e18, trivial⟩) (castK h (by kernel_rfl))
set_option maxRecDepth 100000 in
theorem herdsmanlaw2_TileLays.f9 (Q : Bool → World → Prop) : ∀ local0 cost x was y ok0 may w, herdsmanlaw2_TileLays.b9 Q local0 cost x was y ok0 may w → ∀ ρ : Env, ρ 3 = .int .i64 local0 → ρ 4 = .int .i64 cost → ρ 13 = .pointer (some x) → ρ 14 = .pointer (some was) → ρ 15 = .pointer (some y) → ρ 16 = .bool ok0 → ρ 17 = .bool may → Fin (cx 141) (todoOf Go.Proofs.Try.f6 9) ρ w (herdsmanlaw2_TileLays.R Q) := by
  intro local0 cost x was y ok0 may w h ρ e3 e4 e13 e14 e15 e16 e17
  refine Fin.cut (ρ' := put (put (put (put (put (put (put (ρ) (some 3) (.int .i64 local0)) (some 4) (.int .i64 cost)) (some 13) (.pointer (some x))) (some 14) (.pointer (some was))) (some 15) (.pointer (some y))) (some 16) (.bool ok0)) (some 17) (.bool may)) ?_ (by rw [put_id e3, put_id e4, put_id e13, put_id e14, put_id e15, put_id e16, put_id e17])
  refine evT_sound (ok 141) (drawD_sound (ok 141) herdsmanlaw2_TileLays.scr) 600 (L := [(14, fun ρ w => herdsmanlaw2_TileLays.d14 (fun local0 cost x y i => ∃ k', herdsmanlaw2_TileLays.b14 Q k' local0 cost x y i w) ρ)]) (leaf_of (fn := Go.Proofs.Try.f6) [14] (by kernel_rfl) ⟨fun ρ w h => by obtain ⟨local0, cost, x, y, i, e3, e4, e13, e15, e18, h⟩ := herdsmanlaw2_TileLays.d14_elim (ρ := ρ) h; obtain ⟨k', h⟩ := h; exact herdsmanlaw2_TileLays.f14 Q k' local0 cost x y i w h ρ e3 e4 e13 e15 e18, trivial⟩) (castK h (by kernel_rfl))
set_option maxRecDepth 100000 in
theorem herdsmanlaw2_TileLays.f6 (Q : Bool → World → Prop) : ∀ local0 cost x w, herdsmanlaw2_TileLays.b6 Q local0 cost x w → ∀ ρ : Env, ρ 3 = .int .i64 local0 → ρ 4 = .int .i64 cost → ρ 13 = .pointer (some x) → Fin (cx 141) (todoOf Go.Proofs.Try.f6 6) ρ w (herdsmanlaw2_TileLays.R Q) := by
  intro local0 cost x w h ρ e3 e4 e13
  refine Fin.cut (ρ' := put (put (put (ρ) (some 3) (.int .i64 local0)) (some 4) (.int .i64 cost)) (some 13) (.pointer (some x))) ?_ (by rw [put_id e3, put_id e4, put_id e13])
  refine evT_sound (ok 141) (drawD_sound (ok 141) herdsmanlaw2_TileLays.scr) 600 (L := [(9, fun ρ w => herdsmanlaw2_TileLays.d9 (fun local0 cost x was y ok0 may => herdsmanlaw2_TileLays.b9 Q local0 cost x was y ok0 may w) ρ)]) (leaf_of (fn := Go.Proofs.Try.f6) [9] (by kernel_rfl) ⟨fun ρ w h => by obtain ⟨local0, cost, x, was, y, ok0, may, e3, e4, e13, e14, e15, e16, e17, h⟩ := herdsmanlaw2_TileLays.d9_elim (ρ := ρ) h; exact herdsmanlaw2_TileLays.f9 Q local0 cost x was y ok0 may w h ρ e3 e4 e13 e14 e15 e16 e17, trivial⟩) (castK h (by kernel_rfl))
set_option maxRecDepth 100000 in
theorem herdsmanlaw2_TileLays.body (t_W : Int) (t_H : Int) (t_C_a : Option Addr) (t_C_n : Nat) (t_C_c : Nat) (w0_1 : Int) (h0 : Int) (local0 : Int) (cost : Int) (raw : Bool) (w : World) (Q : Bool → World → Prop) (h : herdsmanlaw2_TileLays.sh t_W t_H t_C_a t_C_n t_C_c w0_1 h0 local0 cost raw w Q) : herdsmanlaw2_TileLays.call t_W t_H t_C_a t_C_n t_C_c w0_1 h0 local0 cost raw w Q := by
  refine call_fn (ok 141) (fn := Go.Proofs.Try.f6) (args := [.agg #[.int .i64 t_W, .int .i64 t_H, .slice t_C_a t_C_n t_C_c], .int .i64 w0_1, .int .i64 h0, .int .i64 local0, .int .i64 cost, .bool raw]) (K := herdsmanlaw2_TileLays.qv Q) Go.Proofs.Try.func6 (by kernel_rfl) (by kernel_rfl) (by kernel_rfl) ?_
  refine evT_sound (ok 141) (drawD_sound (ok 141) herdsmanlaw2_TileLays.scr) 600 (L := [(6, fun ρ w => herdsmanlaw2_TileLays.d6 (fun local0 cost x => herdsmanlaw2_TileLays.b6 Q local0 cost x w) ρ)]) (leaf_of (fn := Go.Proofs.Try.f6) [6, 6] (by kernel_rfl) ⟨fun ρ w h => by obtain ⟨local0, cost, x, e3, e4, e13, h⟩ := herdsmanlaw2_TileLays.d6_elim (ρ := ρ) h; exact herdsmanlaw2_TileLays.f6 Q local0 cost x w h ρ e3 e4 e13, trivial⟩) (castK h (by kernel_rfl))
/-! ### 7 herdsman/herdsmanlaw2.TileCounts -/
def herdsmanlaw2_TileCounts.s14 (Q : Bool → World → Prop) (R14 : Addr → Int → Int → Option Addr → Nat → Nat → Bool → Bool → Option Addr → Nat → Nat → Option Addr → Nat → Nat → Int → World → Prop) (t : Addr) (l : Int) (walls : Int) (a_a : Option Addr) (a_n : Nat) (a_c : Nat) (ok0 : Bool) (is : Bool) (b_a : Option Addr) (b_n : Nat) (b_c : Nat) (d_a : Option Addr) (d_n : Nat) (d_c : Nat) (i : Int) (w : World) : Prop :=
  cond (decide (i < (b_n : Int)))
  (InB i b_n <|
  wA b_a fun p =>
  LdI .i64 (p.add (i.toNat * 1)) w.drew fun x71 =>
  cond (x71 == l)
  (Q false w.drew)
  (cond (decide (i > 0))
  (InB i b_n <|
  wA b_a fun p_1 =>
  LdI .i64 (p_1.add (i.toNat * 1)) w.drew fun x81 =>
  InB (IntKind.wrap .i64 (i - 1)) b_n <|
  wA b_a fun p_2 =>
  LdI .i64 (p_2.add (((IntKind.wrap .i64 (i - 1))).toNat * 1)) w.drew fun x86 =>
  cond (decide (x81 ≤ x86))
  (Q false w.drew)
  (R14 t l walls a_a a_n a_c ok0 is b_a b_n b_c d_a d_n d_c (IntKind.wrap .i64 (i + 1)) w.drew))
  (R14 t l walls a_a a_n a_c ok0 is b_a b_n b_c d_a d_n d_c (IntKind.wrap .i64 (i + 1)) w.drew)))
  (herdsmanlaw2_told.call w fun r90 w0_1 =>
  cond r90
  (cond ok0
  (cond is
  (LdS (t.add 2) w0_1 fun x103_a x103_n x103_c =>
  cond ((IntKind.wrap .i64 ((a_n : Int) + walls)) == (x103_n : Int))
  (cond ((d_n : Int) == (IntKind.wrap .i64 ((b_n : Int) + 1)))
  (cond ((a_n : Int) == (d_n : Int))
  (Q true w0_1)
  (Q ((a_n : Int) == (b_n : Int)) w0_1))
  (Q false w0_1))
  (Q false w0_1))
  (Q false w0_1))
  (Q false w0_1))
  (Q false w0_1))
def herdsmanlaw2_TileCounts.b14 (Q : Bool → World → Prop) : Nat → Addr → Int → Int → Option Addr → Nat → Nat → Bool → Bool → Option Addr → Nat → Nat → Option Addr → Nat → Nat → Int → World → Prop
  | 0, _, _, _, _, _, _, _, _, _, _, _, _, _, _, _, _ => False
  | k + 1, t, l, walls, a_a, a_n, a_c, ok0, is, b_a, b_n, b_c, d_a, d_n, d_c, i, w => herdsmanlaw2_TileCounts.s14 Q (herdsmanlaw2_TileCounts.b14 Q k) t l walls a_a a_n a_c ok0 is b_a b_n b_c d_a d_n d_c i w
def herdsmanlaw2_TileCounts.s5 (Q : Bool → World → Prop) (R5 : Addr → Int → Int → Int → World → Prop) (t : Addr) (l : Int) (walls : Int) (i : Int) (w : World) : Prop :=
  LdS (t.add 2) w fun x33_a x33_n x33_c =>
  cond (decide (i < (x33_n : Int)))
  (LdI .i64 (t.add 0) w fun x38_W =>
  LdI .i64 (t.add 1) w fun x38_H =>
  LdS (t.add 2) w fun x38_C_a x38_C_n x38_C_c =>
  tile_At.call x38_W x38_H x38_C_a x38_C_n x38_C_c i w fun r40 w0_1 =>
  cond (r40 == 255)
  (R5 t l (IntKind.wrap .i64 (walls + 1)) (IntKind.wrap .i64 (i + 1)) w0_1)
  (R5 t l walls (IntKind.wrap .i64 (i + 1)) w0_1))
  (LdI .i64 (t.add 0) w fun x44_W =>
  LdI .i64 (t.add 1) w fun x44_H =>
  LdS (t.add 2) w fun x44_C_a x44_C_n x44_C_c =>
  tile_Open.call x44_W x44_H x44_C_a x44_C_n x44_C_c w fun r45_a r45_n r45_c w0_2 =>
  LdI .i64 (t.add 0) w0_2 fun x47_W =>
  LdI .i64 (t.add 1) w0_2 fun x47_H =>
  LdS (t.add 2) w0_2 fun x47_C_a x47_C_n x47_C_c =>
  tile_With.call x47_W x47_H x47_C_a x47_C_n x47_C_c l 255 w0_2 fun r49_0_0 r49_0_1 r49_0_2_a r49_0_2_n r49_0_2_c r49_1 w0_3 =>
  Al T 24 w0_3 fun x w0_4 =>
  St (x.add 0) (.int .i64 r49_0_0) w0_4 fun w0_5 =>
  St (x.add 1) (.int .i64 r49_0_1) w0_5 fun w0_6 =>
  St (x.add 2) (.slice r49_0_2_a r49_0_2_n r49_0_2_c) w0_6 fun w0_7 =>
  LdI .i64 (x.add 0) w0_7 fun x53_W =>
  LdI .i64 (x.add 1) w0_7 fun x53_H =>
  LdS (x.add 2) w0_7 fun x53_C_a x53_C_n x53_C_c =>
  tile_With.call x53_W x53_H x53_C_a x53_C_n x53_C_c l 1 w0_7 fun r55_0_0 r55_0_1 r55_0_2_a r55_0_2_n r55_0_2_c r55_1 w0_8 =>
  Al T 24 w0_8 fun y w0_9 =>
  St (y.add 0) (.int .i64 r55_0_0) w0_9 fun w0_10 =>
  St (y.add 1) (.int .i64 r55_0_1) w0_10 fun w0_11 =>
  St (y.add 2) (.slice r55_0_2_a r55_0_2_n r55_0_2_c) w0_11 fun w0_12 =>
  LdI .i64 (x.add 0) w0_12.drew fun x58_W =>
  LdI .i64 (x.add 1) w0_12.drew fun x58_H =>
  LdS (x.add 2) w0_12.drew fun x58_C_a x58_C_n x58_C_c =>
  LdI .i64 (y.add 0) w0_12.drew fun x60_W =>
  LdI .i64 (y.add 1) w0_12.drew fun x60_H =>
  LdS (y.add 2) w0_12.drew fun x60_C_a x60_C_n x60_C_c =>
  tile_Open.call x58_W x58_H x58_C_a x58_C_n x58_C_c w0_12.drew fun r59_a r59_n r59_c w0_13 =>
  w0_13.cell? (y.add 0) = some (.int .i64 x60_W) ∧
  w0_13.cell? (y.add 1) = some (.int .i64 x60_H) ∧
  w0_13.cell? (y.add 2) = some (.slice x60_C_a x60_C_n x60_C_c) ∧
  tile_Open.call x60_W x60_H x60_C_a x60_C_n x60_C_c w0_13 fun r61_a r61_n r61_c w0_14 =>
  ∃ k', herdsmanlaw2_TileCounts.b14 Q k' t l walls r45_a r45_n r45_c r49_1 r55_1 r59_a r59_n r59_c r61_a r61_n r61_c 0 w0_14)
def herdsmanlaw2_TileCounts.b5 (Q : Bool → World → Prop) : Nat → Addr → Int → Int → Int → World → Prop
  | 0, _, _, _, _, _ => False
  | k + 1, t, l, walls, i, w => herdsmanlaw2_TileCounts.s5 Q (herdsmanlaw2_TileCounts.b5 Q k) t l walls i w
def herdsmanlaw2_TileCounts.sh (c_a : Option Addr) (c_n : Nat) (c_c : Nat) (w0_1 : Int) (h0 : Int) (local0 : Int) (w : World) (Q : Bool → World → Prop) : Prop :=
  herdsmanref1_MadeTile.call w0_1 h0 c_a c_n c_c w fun r24_0 r24_1 r24_2_a r24_2_n r24_2_c w0_2 =>
  Al T 24 w0_2 fun t w0_3 =>
  St (t.add 0) (.int .i64 r24_0) w0_3 fun w0_4 =>
  St (t.add 1) (.int .i64 r24_1) w0_4 fun w0_5 =>
  St (t.add 2) (.slice r24_2_a r24_2_n r24_2_c) w0_5 fun w0_6 =>
  LdS (t.add 2) w0_6 fun x27_a x27_n x27_c =>
  herdsmanref1_Within.call local0 0 (IntKind.wrap .i64 ((x27_n : Int) - 1)) w0_6 fun r30 w0_7 =>
  ∃ k', herdsmanlaw2_TileCounts.b5 Q k' t r30 0 0 w0_7
noncomputable def herdsmanlaw2_TileCounts.scr : Scrs := [(12, .op 0 (.op 2 (.op 1 (.op 3 (.op 4 (.op 5 .done)))))), (16, .op 0 (.op 1 (.op 2 (.op 3 (.op 4 (.op 5 (.op 6 (.op 7 (.op 8 (.op 9 (.op 10 (.op 11 (.op 12 (.op 13 (.op 14 (.op 15 (.op 16 (.op 17 (.op 18 (.op 19 (.op 20 (.op 21 .done))))))))))))))))))))))]
def herdsmanlaw2_TileCounts.R (Q : Bool → World → Prop) (ρ : Env) (w : World) : Prop := evRes (cx 129) Go.Proofs.Try.f7.results.toList ρ w fun vs => herdsmanlaw2_TileCounts.qv Q (resV vs) w
def herdsmanlaw2_TileCounts.d5 (K : Addr → Int → Int → Int → Prop) (ρ : Env) : Prop :=
  dP (ρ 9) fun t_p => wA t_p fun t => dI .i64 (ρ 10) fun l => dI .i64 (ρ 11) fun walls => dI .i64 (ρ 12) fun i => K t l walls i
theorem herdsmanlaw2_TileCounts.d5_elim {K : Addr → Int → Int → Int → Prop} {ρ : Env} (h0 : herdsmanlaw2_TileCounts.d5 K ρ) : ∃ (t : Addr) (l : Int) (walls : Int) (i : Int), ρ 9 = .pointer (some t) ∧ ρ 10 = .int .i64 l ∧ ρ 11 = .int .i64 walls ∧ ρ 12 = .int .i64 i ∧ K t l walls i := by
  obtain ⟨t_p, e9, h1⟩ := dP_elim h0
  obtain ⟨t, rfl, h2⟩ := wA_elim h1
  obtain ⟨l, e10, h3⟩ := dI_elim h2
  obtain ⟨walls, e11, h4⟩ := dI_elim h3
  obtain ⟨i, e12, h5⟩ := dI_elim h4
  exact ⟨t, l, walls, i, e9, e10, e11, e12, h5⟩
def herdsmanlaw2_TileCounts.d14 (K : Addr → Int → Int → Option Addr → Nat → Nat → Bool → Bool → Option Addr → Nat → Nat → Option Addr → Nat → Nat → Int → Prop) (ρ : Env) : Prop :=
  dP (ρ 9) fun t_p => wA t_p fun t => dI .i64 (ρ 10) fun l => dI .i64 (ρ 11) fun walls => dS (ρ 13) fun a_a a_n a_c => dB (ρ 15) fun ok0 => dB (ρ 17) fun is => dS (ρ 18) fun b_a b_n b_c => dS (ρ 19) fun d_a d_n d_c => dI .i64 (ρ 20) fun i => K t l walls a_a a_n a_c ok0 is b_a b_n b_c d_a d_n d_c i
theorem herdsmanlaw2_TileCounts.d14_elim {K : Addr → Int → Int → Option Addr → Nat → Nat → Bool → Bool → Option Addr → Nat → Nat → Option Addr → Nat → Nat → Int → Prop} {ρ : Env} (h0 : herdsmanlaw2_TileCounts.d14 K ρ) : ∃ (t : Addr) (l : Int) (walls : Int) (a_a : Option Addr) (a_n : Nat) (a_c : Nat) (ok0 : Bool) (is : Bool) (b_a : Option Addr) (b_n : Nat) (b_c : Nat) (d_a : Option Addr) (d_n : Nat) (d_c : Nat) (i : Int), ρ 9 = .pointer (some t) ∧ ρ 10 = .int .i64 l ∧ ρ 11 = .int .i64 walls ∧ ρ 13 = .slice a_a a_n a_c ∧ ρ 15 = .bool ok0 ∧ ρ 17 = .bool is ∧ ρ 18 = .slice b_a b_n b_c ∧ ρ 19 = .slice d_a d_n d_c ∧ ρ 20 = .int .i64 i ∧ K t l walls a_a a_n a_c ok0 is b_a b_n b_c d_a d_n d_c i := by
  obtain ⟨t_p, e9, h1⟩ := dP_elim h0
  obtain ⟨t, rfl, h2⟩ := wA_elim h1
  obtain ⟨l, e10, h3⟩ := dI_elim h2
  obtain ⟨walls, e11, h4⟩ := dI_elim h3
  obtain ⟨a_a, a_n, a_c, e13, h5⟩ := dS_elim h4
  obtain ⟨ok0, e15, h6⟩ := dB_elim h5
  obtain ⟨is, e17, h7⟩ := dB_elim h6
  obtain ⟨b_a, b_n, b_c, e18, h8⟩ := dS_elim h7
  obtain ⟨d_a, d_n, d_c, e19, h9⟩ := dS_elim h8
  obtain ⟨i, e20, h10⟩ := dI_elim h9
  exact ⟨t, l, walls, a_a, a_n, a_c, ok0, is, b_a, b_n, b_c, d_a, d_n, d_c, i, e9, e10, e11, e13, e15, e17, e18, e19, e20, h10⟩
set_option maxRecDepth 100000 in
theorem herdsmanlaw2_TileCounts.f14 (Q : Bool → World → Prop) : ∀ k t l walls a_a a_n a_c ok0 is b_a b_n b_c d_a d_n d_c i w, herdsmanlaw2_TileCounts.b14 Q k t l walls a_a a_n a_c ok0 is b_a b_n b_c d_a d_n d_c i w → ∀ ρ : Env, ρ 9 = .pointer (some t) → ρ 10 = .int .i64 l → ρ 11 = .int .i64 walls → ρ 13 = .slice a_a a_n a_c → ρ 15 = .bool ok0 → ρ 17 = .bool is → ρ 18 = .slice b_a b_n b_c → ρ 19 = .slice d_a d_n d_c → ρ 20 = .int .i64 i → Fin (cx 129) (todoOf Go.Proofs.Try.f7 14) ρ w (herdsmanlaw2_TileCounts.R Q) := by
  intro k
  induction k with
  | zero => intro t l walls a_a a_n a_c ok0 is b_a b_n b_c d_a d_n d_c i w h; exact h.elim
  | succ k ih =>
    intro t l walls a_a a_n a_c ok0 is b_a b_n b_c d_a d_n d_c i w h ρ e9 e10 e11 e13 e15 e17 e18 e19 e20
    have h : herdsmanlaw2_TileCounts.s14 Q (herdsmanlaw2_TileCounts.b14 Q k) t l walls a_a a_n a_c ok0 is b_a b_n b_c d_a d_n d_c i w := h
    refine Fin.cut (ρ' := put (put (put (put (put (put (put (put (put (ρ) (some 9) (.pointer (some t))) (some 10) (.int .i64 l)) (some 11) (.int .i64 walls)) (some 13) (.slice a_a a_n a_c)) (some 15) (.bool ok0)) (some 17) (.bool is)) (some 18) (.slice b_a b_n b_c)) (some 19) (.slice d_a d_n d_c)) (some 20) (.int .i64 i)) ?_ (by rw [put_id e9, put_id e10, put_id e11, put_id e13, put_id e15, put_id e17, put_id e18, put_id e19, put_id e20])
    refine evT_sound (ok 129) (drawD_sound (ok 129) herdsmanlaw2_TileCounts.scr) 600 (L := [(14, fun ρ w => herdsmanlaw2_TileCounts.d14 (fun t l walls a_a a_n a_c ok0 is b_a b_n b_c d_a d_n d_c i => herdsmanlaw2_TileCounts.b14 Q k t l walls a_a a_n a_c ok0 is b_a b_n b_c d_a d_n d_c i w) ρ)]) (leaf_of (fn := Go.Proofs.Try.f7) [14] (by kernel_rfl) ⟨fun ρ w h => by obtain ⟨t, l, walls, a_a, a_n, a_c, ok0, is, b_a, b_n, b_c, d_a, d_n, d_c, i, e9, e10, e11, e13, e15, e17, e18, e19, e20, h⟩ := herdsmanlaw2_TileCounts.d14_elim (ρ := ρ) h; exact ih t l walls a_a a_n a_c ok0 is b_a b_n b_c d_a d_n d_c i w h ρ e9 e10 e11 e13 e15 e17 e18 e19 e20, trivial⟩) (castK h (by kernel_rfl))
set_option maxRecDepth 100000 in
theorem herdsmanlaw2_TileCounts.f5 (Q : Bool → World → Prop) : ∀ k t l walls i w, herdsmanlaw2_TileCounts.b5 Q k t l walls i w → ∀ ρ : Env, ρ 9 = .pointer (some t) → ρ 10 = .int .i64 l → ρ 11 = .int .i64 walls → ρ 12 = .int .i64 i → Fin (cx 129) (todoOf Go.Proofs.Try.f7 5) ρ w (herdsmanlaw2_TileCounts.R Q) := by
  intro k
  induction k with
  | zero => intro t l walls i w h; exact h.elim
  | succ k ih =>
    intro t l walls i w h ρ e9 e10 e11 e12
    have h : herdsmanlaw2_TileCounts.s5 Q (herdsmanlaw2_TileCounts.b5 Q k) t l walls i w := h
    refine Fin.cut (ρ' := put (put (put (put (ρ) (some 9) (.pointer (some t))) (some 10) (.int .i64 l)) (some 11) (.int .i64 walls)) (some 12) (.int .i64 i)) ?_ (by rw [put_id e9, put_id e10, put_id e11, put_id e12])
    refine evT_sound (ok 129) (drawD_sound (ok 129) herdsmanlaw2_TileCounts.scr) 600 (L := [(5, fun ρ w => herdsmanlaw2_TileCounts.d5 (fun t l walls i => herdsmanlaw2_TileCounts.b5 Q k t l walls i w) ρ), (14, fun ρ w => herdsmanlaw2_TileCounts.d14 (fun t l walls a_a a_n a_c ok0 is b_a b_n b_c d_a d_n d_c i => ∃ k', herdsmanlaw2_TileCounts.b14 Q k' t l walls a_a a_n a_c ok0 is b_a b_n b_c d_a d_n d_c i w) ρ)]) (leaf_of (fn := Go.Proofs.Try.f7) [5, 5, 14] (by kernel_rfl) ⟨fun ρ w h => by obtain ⟨t, l, walls, i, e9, e10, e11, e12, h⟩ := herdsmanlaw2_TileCounts.d5_elim (ρ := ρ) h; exact ih t l walls i w h ρ e9 e10 e11 e12, fun ρ w h => by obtain ⟨t, l, walls, a_a, a_n, a_c, ok0, is, b_a, b_n, b_c, d_a, d_n, d_c, i, e9, e10, e11, e13, e15, e17, e18, e19, e20, h⟩ := herdsmanlaw2_TileCounts.d14_elim (ρ := ρ) h; obtain ⟨k', h⟩ := h; exact herdsmanlaw2_TileCounts.f14 Q k' t l walls a_a a_n a_c ok0 is b_a b_n b_c d_a d_n d_c i w h ρ e9 e10 e11 e13 e15 e17 e18 e19 e20, trivial⟩) (castK h (by kernel_rfl))
set_option maxRecDepth 100000 in
theorem herdsmanlaw2_TileCounts.body (c_a : Option Addr) (c_n : Nat) (c_c : Nat) (w0_1 : Int) (h0 : Int) (local0 : Int) (w : World) (Q : Bool → World → Prop) (h : herdsmanlaw2_TileCounts.sh c_a c_n c_c w0_1 h0 local0 w Q) : herdsmanlaw2_TileCounts.call c_a c_n c_c w0_1 h0 local0 w Q := by
  refine call_fn (ok 129) (fn := Go.Proofs.Try.f7) (args := [.slice c_a c_n c_c, .int .i64 w0_1, .int .i64 h0, .int .i64 local0]) (K := herdsmanlaw2_TileCounts.qv Q) Go.Proofs.Try.func7 (by kernel_rfl) (by kernel_rfl) (by kernel_rfl) ?_
  refine evT_sound (ok 129) (drawD_sound (ok 129) herdsmanlaw2_TileCounts.scr) 600 (L := [(5, fun ρ w => herdsmanlaw2_TileCounts.d5 (fun t l walls i => ∃ k', herdsmanlaw2_TileCounts.b5 Q k' t l walls i w) ρ)]) (leaf_of (fn := Go.Proofs.Try.f7) [5] (by kernel_rfl) ⟨fun ρ w h => by obtain ⟨t, l, walls, i, e9, e10, e11, e12, h⟩ := herdsmanlaw2_TileCounts.d5_elim (ρ := ρ) h; obtain ⟨k', h⟩ := h; exact herdsmanlaw2_TileCounts.f5 Q k' t l walls i w h ρ e9 e10 e11 e12, trivial⟩) (castK h (by kernel_rfl))
end Go.Proofs.Ytbecldlnajlnnaa.S
