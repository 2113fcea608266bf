/- What the bodies ask, and that a call is no more. Printed by a program of this work (sxgen.py) out of the translation. -/
import Derived.Test.YtbecldlnajlnnaaXT
set_option linter.unusedVariables false
set_option linter.unusedSimpArgs false
namespace Go.Proofs.Ytbecldlnajlnnaa.S
open Go.Sx
/-! ### 25 herdsman/tile.sized -/
def tile_sized.sh (n : Int) (w : World) (Q : Bool → World → Prop) : Prop :=
  cond (decide (n ≥ 1))
  (Q (decide (n ≤ 16)) w)
  (Q false w)
noncomputable def tile_sized.scr : Scrs := []
def tile_sized.R (Q : Bool → World → Prop) (ρ : Env) (w : World) : Prop := evRes (cx 9) Go.Proofs.Try.f25.results.toList ρ w fun vs => tile_sized.qv Q (resV vs) w
set_option maxRecDepth 100000 in
theorem tile_sized.body (n : Int) (w : World) (Q : Bool → World → Prop) (h : tile_sized.sh n w Q) : tile_sized.call n w Q := by
  refine call_fn (ok 9) (fn := Go.Proofs.Try.f25) (args := [.int .i64 n]) (K := tile_sized.qv Q) Go.Proofs.Try.func25 (by kernel_rfl) (by kernel_rfl) (by kernel_rfl) ?_
  refine evT_sound (ok 9) (drawD_sound (ok 9) tile_sized.scr) 600 (L := []) (leaf_of (fn := Go.Proofs.Try.f25) [] (by kernel_rfl) trivial) (castK h (by kernel_rfl))
/-! ### 33 slices.Index[[]byte,byte] -/
def slices_Index_byte_byte.s2 (Q : Int → World → Prop) (R2 : Option Addr → Nat → Nat → Int → Int → Int → World → Prop) (s_a : Option Addr) (s_n : Nat) (s_c : Nat) (v : Int) (t7 : Int) (t8 : Int) (w : World) : Prop :=
  cond (decide (t8 < t7))
  (InB t8 s_n <|
  wA s_a fun p =>
  LdI .u8 (p.add (t8.toNat * 1)) w fun x15 =>
  cond (v == x15)
  (Q t8 w)
  (R2 s_a s_n s_c v t7 (IntKind.wrap .i64 (t8 + 1)) w))
  (Q (-1) w)
def slices_Index_byte_byte.b2 (Q : Int → World → Prop) : Nat → Option Addr → Nat → Nat → Int → Int → Int → World → Prop
  | 0, _, _, _, _, _, _, _ => False
  | k + 1, s_a, s_n, s_c, v, t7, t8, w => slices_Index_byte_byte.s2 Q (slices_Index_byte_byte.b2 Q k) s_a s_n s_c v t7 t8 w
def slices_Index_byte_byte.sh (s_a : Option Addr) (s_n : Nat) (s_c : Nat) (v : Int) (w : World) (Q : Int → World → Prop) : Prop :=
  ∃ k', slices_Index_byte_byte.b2 Q k' s_a s_n s_c v (s_n : Int) 0 w
noncomputable def slices_Index_byte_byte.scr : Scrs := []
def slices_Index_byte_byte.R (Q : Int → World → Prop) (ρ : Env) (w : World) : Prop := evRes (cx 19) Go.Proofs.Try.f33.results.toList ρ w fun vs => slices_Index_byte_byte.qv Q (resV vs) w
def slices_Index_byte_byte.d2 (K : Option Addr → Nat → Nat → Int → Int → Int → Prop) (ρ : Env) : Prop :=
  dS (ρ 0) fun s_a s_n s_c => dI .u8 (ρ 1) fun v => dI .i64 (ρ 7) fun t7 => dI .i64 (ρ 8) fun t8 => K s_a s_n s_c v t7 t8
theorem slices_Index_byte_byte.d2_elim {K : Option Addr → Nat → Nat → Int → Int → Int → Prop} {ρ : Env} (h0 : slices_Index_byte_byte.d2 K ρ) : ∃ (s_a : Option Addr) (s_n : Nat) (s_c : Nat) (v : Int) (t7 : Int) (t8 : Int), ρ 0 = .slice s_a s_n s_c ∧ ρ 1 = .int .u8 v ∧ ρ 7 = .int .i64 t7 ∧ ρ 8 = .int .i64 t8 ∧ K s_a s_n s_c v t7 t8 := by
  obtain ⟨s_a, s_n, s_c, e0, h1⟩ := dS_elim h0
  obtain ⟨v, e1, h2⟩ := dI_elim h1
  obtain ⟨t7, e7, h3⟩ := dI_elim h2
  obtain ⟨t8, e8, h4⟩ := dI_elim h3
  exact ⟨s_a, s_n, s_c, v, t7, t8, e0, e1, e7, e8, h4⟩
set_option maxRecDepth 100000 in
theorem slices_Index_byte_byte.f2 (Q : Int → World → Prop) : ∀ k s_a s_n s_c v t7 t8 w, slices_Index_byte_byte.b2 Q k s_a s_n s_c v t7 t8 w → ∀ ρ : Env, ρ 0 = .slice s_a s_n s_c → ρ 1 = .int .u8 v → ρ 7 = .int .i64 t7 → ρ 8 = .int .i64 t8 → Fin (cx 19) (todoOf Go.Proofs.Try.f33 2) ρ w (slices_Index_byte_byte.R Q) := by
  intro k
  induction k with
  | zero => intro s_a s_n s_c v t7 t8 w h; exact h.elim
  | succ k ih =>
    intro s_a s_n s_c v t7 t8 w h ρ e0 e1 e7 e8
    have h : slices_Index_byte_byte.s2 Q (slices_Index_byte_byte.b2 Q k) s_a s_n s_c v t7 t8 w := h
    refine Fin.cut (ρ' := put (put (put (put (ρ) (some 0) (.slice s_a s_n s_c)) (some 1) (.int .u8 v)) (some 7) (.int .i64 t7)) (some 8) (.int .i64 t8)) ?_ (by rw [put_id e0, put_id e1, put_id e7, put_id e8])
    refine evT_sound (ok 19) (drawD_sound (ok 19) slices_Index_byte_byte.scr) 600 (L := [(2, fun ρ w => slices_Index_byte_byte.d2 (fun s_a s_n s_c v t7 t8 => slices_Index_byte_byte.b2 Q k s_a s_n s_c v t7 t8 w) ρ)]) (leaf_of (fn := Go.Proofs.Try.f33) [2] (by kernel_rfl) ⟨fun ρ w h => by obtain ⟨s_a, s_n, s_c, v, t7, t8, e0, e1, e7, e8, h⟩ := slices_Index_byte_byte.d2_elim (ρ := ρ) h; exact ih s_a s_n s_c v t7 t8 w h ρ e0 e1 e7 e8, trivial⟩) (castK h (by kernel_rfl))
set_option maxRecDepth 100000 in
theorem slices_Index_byte_byte.body (s_a : Option Addr) (s_n : Nat) (s_c : Nat) (v : Int) (w : World) (Q : Int → World → Prop) (h : slices_Index_byte_byte.sh s_a s_n s_c v w Q) : slices_Index_byte_byte.call s_a s_n s_c v w Q := by
  refine call_fn (ok 19) (fn := Go.Proofs.Try.f33) (args := [.slice s_a s_n s_c, .int .u8 v]) (K := slices_Index_byte_byte.qv Q) Go.Proofs.Try.func33 (by kernel_rfl) (by kernel_rfl) (by kernel_rfl) ?_
  refine evT_sound (ok 19) (drawD_sound (ok 19) slices_Index_byte_byte.scr) 600 (L := [(2, fun ρ w => slices_Index_byte_byte.d2 (fun s_a s_n s_c v t7 t8 => ∃ k', slices_Index_byte_byte.b2 Q k' s_a s_n s_c v t7 t8 w) ρ)]) (leaf_of (fn := Go.Proofs.Try.f33) [2] (by kernel_rfl) ⟨fun ρ w h => by obtain ⟨s_a, s_n, s_c, v, t7, t8, e0, e1, e7, e8, h⟩ := slices_Index_byte_byte.d2_elim (ρ := ρ) h; obtain ⟨k', h⟩ := h; exact slices_Index_byte_byte.f2 Q k' s_a s_n s_c v t7 t8 w h ρ e0 e1 e7 e8, trivial⟩) (castK h (by kernel_rfl))
/-! ### 26 slices.Contains[[]byte,byte] -/
def slices_Contains_byte_byte.sh (s_a : Option Addr) (s_n : Nat) (s_c : Nat) (v : Int) (w : World) (Q : Bool → World → Prop) : Prop :=
  slices_Index_byte_byte.call s_a s_n s_c v w fun r7 w0_1 =>
  Q (decide (r7 ≥ 0)) w0_1
noncomputable def slices_Contains_byte_byte.scr : Scrs := []
def slices_Contains_byte_byte.R (Q : Bool → World → Prop) (ρ : Env) (w : World) : Prop := evRes (cx 9) Go.Proofs.Try.f26.results.toList ρ w fun vs => slices_Contains_byte_byte.qv Q (resV vs) w
set_option maxRecDepth 100000 in
theorem slices_Contains_byte_byte.body (s_a : Option Addr) (s_n : Nat) (s_c : Nat) (v : Int) (w : World) (Q : Bool → World → Prop) (h : slices_Contains_byte_byte.sh s_a s_n s_c v w Q) : slices_Contains_byte_byte.call s_a s_n s_c v w Q := by
  refine call_fn (ok 9) (fn := Go.Proofs.Try.f26) (args := [.slice s_a s_n s_c, .int .u8 v]) (K := slices_Contains_byte_byte.qv Q) Go.Proofs.Try.func26 (by kernel_rfl) (by kernel_rfl) (by kernel_rfl) ?_
  refine evT_sound (ok 9) (drawD_sound (ok 9) slices_Contains_byte_byte.scr) 600 (L := []) (leaf_of (fn := Go.Proofs.Try.f26) [] (by kernel_rfl) trivial) (castK h (by kernel_rfl))
/-! ### 13 herdsman/tile.May -/
def tile_May.sh (t_W : Int) (t_H : Int) (t_C_a : Option Addr) (t_C_n : Nat) (t_C_c : Nat) (w : World) (Q : Bool → World → Prop) : Prop :=
  Bx [.int .i64 t_W, .int .i64 t_H, .slice t_C_a t_C_n t_C_c] 24 w fun t_b w0_1 =>
  LdI .i64 t_b w0_1 fun x4 =>
  tile_sized.call x4 w0_1 fun r5 w0_2 =>
  cond r5
  (LdI .i64 (t_b.add 1) w0_2 fun x8 =>
  tile_sized.call x8 w0_2 fun r9 w0_3 =>
  cond r9
  (LdS (t_b.add 2) w0_3 fun x13_a x13_n x13_c =>
  LdI .i64 t_b w0_3 fun x16 =>
  LdI .i64 (t_b.add 1) w0_3 fun x18 =>
  cond ((x13_n : Int) == (IntKind.wrap .i64 (x16 * x18)))
  (LdS (t_b.add 2) w0_3 fun x24_a x24_n x24_c =>
  slices_Contains_byte_byte.call x24_a x24_n x24_c 0 w0_3 fun r25 w0_4 =>
  Q (!r25) w0_4)
  (Q false w0_3))
  (Q false w0_3))
  (Q false w0_2)
noncomputable def tile_May.scr : Scrs := []
def tile_May.R (Q : Bool → World → Prop) (ρ : Env) (w : World) : Prop := evRes (cx 28) Go.Proofs.Try.f13.results.toList ρ w fun vs => tile_May.qv Q (resV vs) w
set_option maxRecDepth 100000 in
theorem tile_May.body (t_W : Int) (t_H : Int) (t_C_a : Option Addr) (t_C_n : Nat) (t_C_c : Nat) (w : World) (Q : Bool → World → Prop) (h : tile_May.sh t_W t_H t_C_a t_C_n t_C_c w Q) : tile_May.call t_W t_H t_C_a t_C_n t_C_c w Q := by
  refine call_fn (ok 28) (fn := Go.Proofs.Try.f13) (args := [.agg #[.int .i64 t_W, .int .i64 t_H, .slice t_C_a t_C_n t_C_c]]) (K := tile_May.qv Q) Go.Proofs.Try.func13 (by kernel_rfl) (by kernel_rfl) (by kernel_rfl) ?_
  refine evT_sound (ok 28) (drawD_sound (ok 28) tile_May.scr) 600 (L := []) (leaf_of (fn := Go.Proofs.Try.f13) [] (by kernel_rfl) trivial) (castK h (by kernel_rfl))
/-! ### 27 herdsman/tile.is -/
def tile_is.sh (t_W : Int) (t_H : Int) (t_C_a : Option Addr) (t_C_n : Nat) (t_C_c : Nat) (local0 : Int) (w : World) (Q : Bool → World → Prop) : Prop :=
  Bx [.int .i64 t_W, .int .i64 t_H, .slice t_C_a t_C_n t_C_c] 24 w fun t_b w0_1 =>
  cond (decide (local0 ≥ 0))
  (LdS (t_b.add 2) w0_1 fun x10_a x10_n x10_c =>
  cond (decide (local0 < (x10_n : Int)))
  (LdI .i64 (t_b.add 0) w0_1 fun x15_W =>
  LdI .i64 (t_b.add 1) w0_1 fun x15_H =>
  LdS (t_b.add 2) w0_1 fun x15_C_a x15_C_n x15_C_c =>
  tile_May.call x15_W x15_H x15_C_a x15_C_n x15_C_c w0_1 fun r16 w0_2 =>
  Q r16 w0_2)
  (Q false w0_1))
  (Q false w0_1)
noncomputable def tile_is.scr : Scrs := []
def tile_is.R (Q : Bool → World → Prop) (ρ : Env) (w : World) : Prop := evRes (cx 18) Go.Proofs.Try.f27.results.toList ρ w fun vs => tile_is.qv Q (resV vs) w
set_option maxRecDepth 100000 in
theorem tile_is.body (t_W : Int) (t_H : Int) (t_C_a : Option Addr) (t_C_n : Nat) (t_C_c : Nat) (local0 : Int) (w : World) (Q : Bool → World → Prop) (h : tile_is.sh t_W t_H t_C_a t_C_n t_C_c local0 w Q) : tile_is.call t_W t_H t_C_a t_C_n t_C_c local0 w Q := by
  refine call_fn (ok 18) (fn := Go.Proofs.Try.f27) (args := [.agg #[.int .i64 t_W, .int .i64 t_H, .slice t_C_a t_C_n t_C_c], .int .i64 local0]) (K := tile_is.qv Q) Go.Proofs.Try.func27 (by kernel_rfl) (by kernel_rfl) (by kernel_rfl) ?_
  refine evT_sound (ok 18) (drawD_sound (ok 18) tile_is.scr) 600 (L := []) (leaf_of (fn := Go.Proofs.Try.f27) [] (by kernel_rfl) trivial) (castK h (by kernel_rfl))
/-! ### 14 herdsman/tile.At -/
def tile_At.sh (t_W : Int) (t_H : Int) (t_C_a : Option Addr) (t_C_n : Nat) (t_C_c : Nat) (local0 : Int) (w : World) (Q : Int → World → Prop) : Prop :=
  Bx [.int .i64 t_W, .int .i64 t_H, .slice t_C_a t_C_n t_C_c] 24 w fun t_b w0_1 =>
  LdI .i64 (t_b.add 0) w0_1 fun x5_W =>
  LdI .i64 (t_b.add 1) w0_1 fun x5_H =>
  LdS (t_b.add 2) w0_1 fun x5_C_a x5_C_n x5_C_c =>
  tile_is.call x5_W x5_H x5_C_a x5_C_n x5_C_c local0 w0_1 fun r7 w0_2 =>
  cond (!r7)
  (Q 0 w0_2)
  (LdS (t_b.add 2) w0_2 fun x10_a x10_n x10_c =>
  InB local0 x10_n <|
  wA x10_a fun p =>
  LdI .u8 (p.add (local0.toNat * 1)) w0_2 fun x13 =>
  Q (IntKind.wrap .i64 x13) w0_2)
noncomputable def tile_At.scr : Scrs := []
def tile_At.R (Q : Int → World → Prop) (ρ : Env) (w : World) : Prop := evRes (cx 15) Go.Proofs.Try.f14.results.toList ρ w fun vs => tile_At.qv Q (resV vs) w
set_option maxRecDepth 100000 in
theorem tile_At.body (t_W : Int) (t_H : Int) (t_C_a : Option Addr) (t_C_n : Nat) (t_C_c : Nat) (local0 : Int) (w : World) (Q : Int → World → Prop) (h : tile_At.sh t_W t_H t_C_a t_C_n t_C_c local0 w Q) : tile_At.call t_W t_H t_C_a t_C_n t_C_c local0 w Q := by
  refine call_fn (ok 15) (fn := Go.Proofs.Try.f14) (args := [.agg #[.int .i64 t_W, .int .i64 t_H, .slice t_C_a t_C_n t_C_c], .int .i64 local0]) (K := tile_At.qv Q) Go.Proofs.Try.func14 (by kernel_rfl) (by kernel_rfl) (by kernel_rfl) ?_
  refine evT_sound (ok 15) (drawD_sound (ok 15) tile_At.scr) 600 (L := []) (leaf_of (fn := Go.Proofs.Try.f14) [] (by kernel_rfl) trivial) (castK h (by kernel_rfl))
/-! ### 15 herdsman/tile.Near -/
def tile_Near.b16 (Q : Int → World → Prop) (t : Addr) (x : Int) (y : Int) (w : World) : Prop :=
  cond (decide (x < 0))
  (Q (-1) w)
  (LdI .i64 t w fun x44 =>
  cond (decide (x ≥ x44))
  (Q (-1) w)
  (cond (decide (y < 0))
  (Q (-1) w)
  (LdI .i64 (t.add 1) w fun x54 =>
  cond (decide (y ≥ x54))
  (Q (-1) w)
  (LdI .i64 t w fun x59 =>
  Q (IntKind.wrap .i64 ((IntKind.wrap .i64 (y * x59)) + x)) w))))
def tile_Near.b12 (Q : Int → World → Prop) (t : Addr) (x : Int) (y : Int) (by0 : Int) (w : World) : Prop :=
  tile_Near.b16 Q t x (IntKind.wrap .i64 (y + by0)) w
def tile_Near.b14 (Q : Int → World → Prop) (t : Addr) (x : Int) (y : Int) (by0 : Int) (w : World) : Prop :=
  tile_Near.b16 Q t (IntKind.wrap .i64 (x + by0)) y w
def tile_Near.sh (t_W : Int) (t_H : Int) (t_C_a : Option Addr) (t_C_n : Nat) (t_C_c : Nat) (local0 : Int) (side : Int) (w : World) (Q : Int → World → Prop) : Prop :=
  Bx [.int .i64 t_W, .int .i64 t_H, .slice t_C_a t_C_n t_C_c] 24 w fun t_b w0_1 =>
  LdI .i64 (t_b.add 0) w0_1 fun x10_W =>
  LdI .i64 (t_b.add 1) w0_1 fun x10_H =>
  LdS (t_b.add 2) w0_1 fun x10_C_a x10_C_n x10_C_c =>
  tile_is.call x10_W x10_H x10_C_a x10_C_n x10_C_c local0 w0_1 fun r12 w0_2 =>
  cond (!r12)
  (Q (-1) w0_2)
  (LdI .i64 t_b w0_2.drew fun x16 =>
  NZ x16 <|
  LdI .i64 t_b w0_2.drew fun x20 =>
  NZ x20 <|
  w0_2.drew.cell? t_b = some (.int .i64 x20) ∧
  cond (side == 0)
  (tile_Near.b12 Q t_b (Int.tmod local0 x16) (IntKind.wrap .i64 (Int.tdiv local0 x20)) (-1) w0_2.drew)
  (cond (side == 2)
  (tile_Near.b12 Q t_b (Int.tmod local0 x16) (IntKind.wrap .i64 (Int.tdiv local0 x20)) 1 w0_2.drew)
  (cond (side == 3)
  (tile_Near.b14 Q t_b (Int.tmod local0 x16) (IntKind.wrap .i64 (Int.tdiv local0 x20)) (-1) w0_2.drew)
  (cond (side == 1)
  (tile_Near.b14 Q t_b (Int.tmod local0 x16) (IntKind.wrap .i64 (Int.tdiv local0 x20)) 1 w0_2.drew)
  (cond (side == 4)
  (tile_Near.b16 Q t_b (Int.tmod local0 x16) (IntKind.wrap .i64 (Int.tdiv local0 x20)) w0_2.drew)
  (Q (-1) w0_2.drew))))))
noncomputable def tile_Near.scr : Scrs := [(3, .op 0 (.op 1 (.op 2 (.op 3 (.op 4 (.op 5 (.op 6 (.op 7 (.op 8 (.op 9 .done))))))))))]
def tile_Near.R (Q : Int → World → Prop) (ρ : Env) (w : World) : Prop := evRes (cx 63) Go.Proofs.Try.f15.results.toList ρ w fun vs => tile_Near.qv Q (resV vs) w
def tile_Near.d12 (K : Addr → Int → Int → Int → Prop) (ρ : Env) : Prop :=
  dP (ρ 3) fun t_p => wA t_p fun t => dI .i64 (ρ 7) fun x => dI .i64 (ρ 8) fun y => dI .i64 (ρ 9) fun by0 => K t x y by0
theorem tile_Near.d12_elim {K : Addr → Int → Int → Int → Prop} {ρ : Env} (h0 : tile_Near.d12 K ρ) : ∃ (t : Addr) (x : Int) (y : Int) (by0 : Int), ρ 3 = .pointer (some t) ∧ ρ 7 = .int .i64 x ∧ ρ 8 = .int .i64 y ∧ ρ 9 = .int .i64 by0 ∧ K t x y by0 := by
  obtain ⟨t_p, e3, h1⟩ := dP_elim h0
  obtain ⟨t, rfl, h2⟩ := wA_elim h1
  obtain ⟨x, e7, h3⟩ := dI_elim h2
  obtain ⟨y, e8, h4⟩ := dI_elim h3
  obtain ⟨by0, e9, h5⟩ := dI_elim h4
  exact ⟨t, x, y, by0, e3, e7, e8, e9, h5⟩
def tile_Near.d14 (K : Addr → Int → Int → Int → Prop) (ρ : Env) : Prop :=
  dP (ρ 3) fun t_p => wA t_p fun t => dI .i64 (ρ 7) fun x => dI .i64 (ρ 8) fun y => dI .i64 (ρ 9) fun by0 => K t x y by0
theorem tile_Near.d14_elim {K : Addr → Int → Int → Int → Prop} {ρ : Env} (h0 : tile_Near.d14 K ρ) : ∃ (t : Addr) (x : Int) (y : Int) (by0 : Int), ρ 3 = .pointer (some t) ∧ ρ 7 = .int .i64 x ∧ ρ 8 = .int .i64 y ∧ ρ 9 = .int .i64 by0 ∧ K t x y by0 := by
  obtain ⟨t_p, e3, h1⟩ := dP_elim h0
  obtain ⟨t, rfl, h2⟩ := wA_elim h1
  obtain ⟨x, e7, h3⟩ := dI_elim h2
  obtain ⟨y, e8, h4⟩ := dI_elim h3
  obtain ⟨by0, e9, h5⟩ := dI_elim h4
  exact ⟨t, x, y, by0, e3, e7, e8, e9, h5⟩
def tile_Near.d16 (K : Addr → Int → Int → Prop) (ρ : Env) : Prop :=
  dP (ρ 3) fun t_p => wA t_p fun t => dI .i64 (ρ 7) fun x => dI .i64 (ρ 8) fun y => K t x y
theorem tile_Near.d16_elim {K : Addr → Int → Int → Prop} {ρ : Env} (h0 : tile_Near.d16 K ρ) : ∃ (t : Addr) (x : Int) (y : Int), ρ 3 = .pointer (some t) ∧ ρ 7 = .int .i64 x ∧ ρ 8 = .int .i64 y ∧ K t x y := by
  obtain ⟨t_p, e3, h1⟩ := dP_elim h0
  obtain ⟨t, rfl, h2⟩ := wA_elim h1
  obtain ⟨x, e7, h3⟩ := dI_elim h2
  obtain ⟨y, e8, h4⟩ := dI_elim h3
  exact ⟨t, x, y, e3, e7, e8, h4⟩
set_option maxRecDepth 100000 in
theorem tile_Near.f16 (Q : Int → World → Prop) : ∀ t x y w, tile_Near.b16 Q t x y w → ∀ ρ : Env, ρ 3 = .pointer (some t) → ρ 7 = .int .i64 x → ρ 8 = .int .i64 y → Fin (cx 63) (todoOf Go.Proofs.Try.f15 16) ρ w (tile_Near.R Q) := by
  intro t x y w h ρ e3 e7 e8
  refine Fin.cut (ρ' := put (put (put (ρ) (some 3) (.pointer (some t))) (some 7) (.int .i64 x)) (some 8) (.int .i64 y)) ?_ (by rw [put_id e3, put_id e7, put_id e8])
  refine evT_sound (ok 63) (drawD_sound (ok 63) tile_Near.scr) 600 (L := []) (leaf_of (fn := Go.Proofs.Try.f15) [] (by kernel_rfl) trivial) (castK h (by kernel_rfl))
set_option maxRecDepth 100000 in
theorem tile_Near.f12 (Q : Int → World → Prop) : ∀ t x y by0 w, tile_Near.b12 Q t x y by0 w → ∀ ρ : Env, ρ 3 = .pointer (some t) → ρ 7 = .int .i64 x → ρ 8 = .int .i64 y → ρ 9 = .int .i64 by0 → Fin (cx 63) (todoOf Go.Proofs.Try.f15 12) ρ w (tile_Near.R Q) := by
  intro t x y by0 w h ρ e3 e7 e8 e9
  refine Fin.cut (ρ' := put (put (put (put (ρ) (some 3) (.pointer (some t))) (some 7) (.int .i64 x)) (some 8) (.int .i64 y)) (some 9) (.int .i64 by0)) ?_ (by rw [put_id e3, put_id e7, put_id e8, put_id e9])
  refine evT_sound (ok 63) (drawD_sound (ok 63) tile_Near.scr) 600 (L := [(16, fun ρ w => tile_Near.d16 (fun t x y => tile_Near.b16 Q t x y w) ρ)]) (leaf_of (fn := Go.Proofs.Try.f15) [16] (by kernel_rfl) ⟨fun ρ w h => by obtain ⟨t, x, y, e3, e7, e8, h⟩ := tile_Near.d16_elim (ρ := ρ) h; exact tile_Near.f16 Q t x y w h ρ e3 e7 e8, trivial⟩) (castK h (by kernel_rfl))
set_option maxRecDepth 100000 in
theorem tile_Near.f14 (Q : Int → World → Prop) : ∀ t x y by0 w, tile_Near.b14 Q t x y by0 w → ∀ ρ : Env, ρ 3 = .pointer (some t) → ρ 7 = .int .i64 x → ρ 8 = .int .i64 y → ρ 9 = .int .i64 by0 → Fin (cx 63) (todoOf Go.Proofs.Try.f15 14) ρ w (tile_Near.R Q) := by
  intro t x y by0 w h ρ e3 e7 e8 e9
  refine Fin.cut (ρ' := put (put (put (put (ρ) (some 3) (.pointer (some t))) (some 7) (.int .i64 x)) (some 8) (.int .i64 y)) (some 9) (.int .i64 by0)) ?_ (by rw [put_id e3, put_id e7, put_id e8, put_id e9])
  refine evT_sound (ok 63) (drawD_sound (ok 63) tile_Near.scr) 600 (L := [(16, fun ρ w => tile_Near.d16 (fun t x y => tile_Near.b16 Q t x y w) ρ)]) (leaf_of (fn := Go.Proofs.Try.f15) [16] (by kernel_rfl) ⟨fun ρ w h => by obtain ⟨t, x, y, e3, e7, e8, h⟩ := tile_Near.d16_elim (ρ := ρ) h; exact tile_Near.f16 Q t x y w h ρ e3 e7 e8, trivial⟩) (castK h (by kernel_rfl))
set_option maxRecDepth 100000 in
theorem tile_Near.body (t_W : Int) (t_H : Int) (t_C_a : Option Addr) (t_C_n : Nat) (t_C_c : Nat) (local0 : Int) (side : Int) (w : World) (Q : Int → World → Prop) (h : tile_Near.sh t_W t_H t_C_a t_C_n t_C_c local0 side w Q) : tile_Near.call t_W t_H t_C_a t_C_n t_C_c local0 side w Q := by
  refine call_fn (ok 63) (fn := Go.Proofs.Try.f15) (args := [.agg #[.int .i64 t_W, .int .i64 t_H, .slice t_C_a t_C_n t_C_c], .int .i64 local0, .int .i64 side]) (K := tile_Near.qv Q) Go.Proofs.Try.func15 (by kernel_rfl) (by kernel_rfl) (by kernel_rfl) ?_
  refine evT_sound (ok 63) (drawD_sound (ok 63) tile_Near.scr) 600 (L := [(12, fun ρ w => tile_Near.d12 (fun t x y by0 => tile_Near.b12 Q t x y by0 w) ρ), (14, fun ρ w => tile_Near.d14 (fun t x y by0 => tile_Near.b14 Q t x y by0 w) ρ), (16, fun ρ w => tile_Near.d16 (fun t x y => tile_Near.b16 Q t x y w) ρ)]) (leaf_of (fn := Go.Proofs.Try.f15) [12, 12, 14, 14, 16] (by kernel_rfl) ⟨fun ρ w h => by obtain ⟨t, x, y, by0, e3, e7, e8, e9, h⟩ := tile_Near.d12_elim (ρ := ρ) h; exact tile_Near.f12 Q t x y by0 w h ρ e3 e7 e8 e9, fun ρ w h => by obtain ⟨t, x, y, by0, e3, e7, e8, e9, h⟩ := tile_Near.d14_elim (ρ := ρ) h; exact tile_Near.f14 Q t x y by0 w h ρ e3 e7 e8 e9, fun ρ w h => by obtain ⟨t, x, y, e3, e7, e8, h⟩ := tile_Near.d16_elim (ρ := ρ) h; exact tile_Near.f16 Q t x y w h ρ e3 e7 e8, trivial⟩) (castK h (by kernel_rfl))
/-! ### 18 herdsman/tile.Open -/
def tile_Open.s5 (Q : Option Addr → Nat → Nat → World → Prop) (R5 : Option Addr → Nat → Nat → Option Addr → Nat → Nat → Int → Int → World → Prop) (out_a : Option Addr) (out_n : Nat) (out_c : Nat) (t10_a : Option Addr) (t10_n : Nat) (t10_c : Nat) (t11 : Int) (t12 : Int) (w : World) : Prop :=
  cond (decide (t12 < t11))
  (InB t12 t10_n <|
  wA t10_a fun p =>
  LdI .u8 (p.add (t12.toNat * 1)) w fun x16 =>
  cond (x16 != 255)
  (Bx [.int .i64 t12] 3 w fun p21_s w0_1 =>
  App P #[28, 28] 28 (.slice out_a out_n out_c) (.slice (some p21_s) 1 1) w0_1 fun r22_a r22_n r22_c w0_2 =>
  R5 r22_a r22_n r22_c t10_a t10_n t10_c t11 (IntKind.wrap .i64 (t12 + 1)) w0_2)
  (R5 out_a out_n out_c t10_a t10_n t10_c t11 (IntKind.wrap .i64 (t12 + 1)) w))
  (Q out_a out_n out_c w)
def tile_Open.b5 (Q : Option Addr → Nat → Nat → World → Prop) : Nat → Option Addr → Nat → Nat → Option Addr → Nat → Nat → Int → Int → World → Prop
  | 0, _, _, _, _, _, _, _, _, _ => False
  | k + 1, out_a, out_n, out_c, t10_a, t10_n, t10_c, t11, t12, w => tile_Open.s5 Q (tile_Open.b5 Q k) out_a out_n out_c t10_a t10_n t10_c t11 t12 w
def tile_Open.sh (t_W : Int) (t_H : Int) (t_C_a : Option Addr) (t_C_n : Nat) (t_C_c : Nat) (w : World) (Q : Option Addr → Nat → Nat → World → Prop) : Prop :=
  Bx [.int .i64 t_W, .int .i64 t_H, .slice t_C_a t_C_n t_C_c] 24 w fun t_b w0_1 =>
  LdI .i64 (t_b.add 0) w0_1 fun x6_W =>
  LdI .i64 (t_b.add 1) w0_1 fun x6_H =>
  LdS (t_b.add 2) w0_1 fun x6_C_a x6_C_n x6_C_c =>
  tile_May.call x6_W x6_H x6_C_a x6_C_n x6_C_c w0_1 fun r7 w0_2 =>
  cond (!r7)
  (Q none 0 0 w0_2)
  (LdS (t_b.add 2) w0_2 fun x10_a x10_n x10_c =>
  ∃ k', tile_Open.b5 Q k' none 0 0 x10_a x10_n x10_c (x10_n : Int) 0 w0_2)
noncomputable def tile_Open.scr : Scrs := []
def tile_Open.R (Q : Option Addr → Nat → Nat → World → Prop) (ρ : Env) (w : World) : Prop := evRes (cx 25) Go.Proofs.Try.f18.results.toList ρ w fun vs => tile_Open.qv Q (resV vs) w
def tile_Open.d5 (K : Option Addr → Nat → Nat → Option Addr → Nat → Nat → Int → Int → Prop) (ρ : Env) : Prop :=
  dS (ρ 3) fun out_a out_n out_c => dS (ρ 10) fun t10_a t10_n t10_c => dI .i64 (ρ 11) fun t11 => dI .i64 (ρ 12) fun t12 => K out_a out_n out_c t10_a t10_n t10_c t11 t12
theorem tile_Open.d5_elim {K : Option Addr → Nat → Nat → Option Addr → Nat → Nat → Int → Int → Prop} {ρ : Env} (h0 : tile_Open.d5 K ρ) : ∃ (out_a : Option Addr) (out_n : Nat) (out_c : Nat) (t10_a : Option Addr) (t10_n : Nat) (t10_c : Nat) (t11 : Int) (t12 : Int), ρ 3 = .slice out_a out_n out_c ∧ ρ 10 = .slice t10_a t10_n t10_c ∧ ρ 11 = .int .i64 t11 ∧ ρ 12 = .int .i64 t12 ∧ K out_a out_n out_c t10_a t10_n t10_c t11 t12 := by
  obtain ⟨out_a, out_n, out_c, e3, h1⟩ := dS_elim h0
  obtain ⟨t10_a, t10_n, t10_c, e10, h2⟩ := dS_elim h1
  obtain ⟨t11, e11, h3⟩ := dI_elim h2
  obtain ⟨t12, e12, h4⟩ := dI_elim h3
  exact ⟨out_a, out_n, out_c, t10_a, t10_n, t10_c, t11, t12, e3, e10, e11, e12, h4⟩
set_option maxRecDepth 100000 in
theorem tile_Open.f5 (Q : Option Addr → Nat → Nat → World → Prop) : ∀ k out_a out_n out_c t10_a t10_n t10_c t11 t12 w, tile_Open.b5 Q k out_a out_n out_c t10_a t10_n t10_c t11 t12 w → ∀ ρ : Env, ρ 3 = .slice out_a out_n out_c → ρ 10 = .slice t10_a t10_n t10_c → ρ 11 = .int .i64 t11 → ρ 12 = .int .i64 t12 → Fin (cx 25) (todoOf Go.Proofs.Try.f18 5) ρ w (tile_Open.R Q) := by
  intro k
  induction k with
  | zero => intro out_a out_n out_c t10_a t10_n t10_c t11 t12 w h; exact h.elim
  | succ k ih =>
    intro out_a out_n out_c t10_a t10_n t10_c t11 t12 w h ρ e3 e10 e11 e12
    have h : tile_Open.s5 Q (tile_Open.b5 Q k) out_a out_n out_c t10_a t10_n t10_c t11 t12 w := h
    refine Fin.cut (ρ' := put (put (put (put (ρ) (some 3) (.slice out_a out_n out_c)) (some 10) (.slice t10_a t10_n t10_c)) (some 11) (.int .i64 t11)) (some 12) (.int .i64 t12)) ?_ (by rw [put_id e3, put_id e10, put_id e11, put_id e12])
    refine evT_sound (ok 25) (drawD_sound (ok 25) tile_Open.scr) 600 (L := [(5, fun ρ w => tile_Open.d5 (fun out_a out_n out_c t10_a t10_n t10_c t11 t12 => tile_Open.b5 Q k out_a out_n out_c t10_a t10_n t10_c t11 t12 w) ρ)]) (leaf_of (fn := Go.Proofs.Try.f18) [5, 5] (by kernel_rfl) ⟨fun ρ w h => by obtain ⟨out_a, out_n, out_c, t10_a, t10_n, t10_c, t11, t12, e3, e10, e11, e12, h⟩ := tile_Open.d5_elim (ρ := ρ) h; exact ih out_a out_n out_c t10_a t10_n t10_c t11 t12 w h ρ e3 e10 e11 e12, trivial⟩) (castK h (by kernel_rfl))
set_option maxRecDepth 100000 in
theorem tile_Open.body (t_W : Int) (t_H : Int) (t_C_a : Option Addr) (t_C_n : Nat) (t_C_c : Nat) (w : World) (Q : Option Addr → Nat → Nat → World → Prop) (h : tile_Open.sh t_W t_H t_C_a t_C_n t_C_c w Q) : tile_Open.call t_W t_H t_C_a t_C_n t_C_c w Q := by
  refine call_fn (ok 25) (fn := Go.Proofs.Try.f18) (args := [.agg #[.int .i64 t_W, .int .i64 t_H, .slice t_C_a t_C_n t_C_c]]) (K := tile_Open.qv Q) Go.Proofs.Try.func18 (by kernel_rfl) (by kernel_rfl) (by kernel_rfl) ?_
  refine evT_sound (ok 25) (drawD_sound (ok 25) tile_Open.scr) 600 (L := [(5, fun ρ w => tile_Open.d5 (fun out_a out_n out_c t10_a t10_n t10_c t11 t12 => ∃ k', tile_Open.b5 Q k' out_a out_n out_c t10_a t10_n t10_c t11 t12 w) ρ)]) (leaf_of (fn := Go.Proofs.Try.f18) [5] (by kernel_rfl) ⟨fun ρ w h => by obtain ⟨out_a, out_n, out_c, t10_a, t10_n, t10_c, t11, t12, e3, e10, e11, e12, h⟩ := tile_Open.d5_elim (ρ := ρ) h; obtain ⟨k', h⟩ := h; exact tile_Open.f5 Q k' out_a out_n out_c t10_a t10_n t10_c t11 t12 w h ρ e3 e10 e11 e12, trivial⟩) (castK h (by kernel_rfl))
/-! ### 8 herdsman/herdsmanlaw2.told -/
def herdsmanlaw2_told.sh (w : World) (Q : Bool → World → Prop) : Prop :=
  Bx [.int .u8 1, .int .u8 255, .int .u8 3, .int .u8 4] 5 w fun p3_s w0_1 =>
  Al T 24 w0_1 fun t w0_2 =>
  St (t.add 0) (.int .i64 2) w0_2 fun w0_3 =>
  St (t.add 1) (.int .i64 2) w0_3 fun w0_4 =>
  St (t.add 2) (.slice (some p3_s) 4 4) w0_4 fun w0_5 =>
  LdI .i64 (t.add 0) w0_5 fun x5_W =>
  LdI .i64 (t.add 1) w0_5 fun x5_H =>
  LdS (t.add 2) w0_5 fun x5_C_a x5_C_n x5_C_c =>
  tile_Open.call x5_W x5_H x5_C_a x5_C_n x5_C_c w0_5 fun r6_a r6_n r6_c w0_6 =>
  LdI .i64 (t.add 0) w0_6 fun x7_W =>
  LdI .i64 (t.add 1) w0_6 fun x7_H =>
  LdS (t.add 2) w0_6 fun x7_C_a x7_C_n x7_C_c =>
  tile_May.call x7_W x7_H x7_C_a x7_C_n x7_C_c w0_6 fun r8 w0_7 =>
  cond r8
  (cond ((r6_n : Int) == 3)
  (InB 1 r6_n <|
  wA r6_a fun p =>
  LdI .i64 (p.add (((1 : Int).toNat) * 1)) w0_7 fun x17 =>
  cond (x17 == 2)
  (LdI .i64 (t.add 0) w0_7 fun x21_W =>
  LdI .i64 (t.add 1) w0_7 fun x21_H =>
  LdS (t.add 2) w0_7 fun x21_C_a x21_C_n x21_C_c =>
  tile_Near.call x21_W x21_H x21_C_a x21_C_n x21_C_c 3 0 w0_7 fun r22 w0_8 =>
  cond (r22 == 1)
  (LdI .i64 (t.add 0) w0_8 fun x26_W =>
  LdI .i64 (t.add 1) w0_8 fun x26_H =>
  LdS (t.add 2) w0_8 fun x26_C_a x26_C_n x26_C_c =>
  tile_At.call x26_W x26_H x26_C_a x26_C_n x26_C_c 2 w0_8 fun r27 w0_9 =>
  Q (r27 == 3) w0_9)
  (Q false w0_8))
  (Q false w0_7))
  (Q false w0_7))
  (Q false w0_7)
noncomputable def herdsmanlaw2_told.scr : Scrs := []
def herdsmanlaw2_told.R (Q : Bool → World → Prop) (ρ : Env) (w : World) : Prop := evRes (cx 30) Go.Proofs.Try.f8.results.toList ρ w fun vs => herdsmanlaw2_told.qv Q (resV vs) w
set_option maxRecDepth 100000 in
theorem herdsmanlaw2_told.body (w : World) (Q : Bool → World → Prop) (h : herdsmanlaw2_told.sh w Q) : herdsmanlaw2_told.call w Q := by
  refine call_fn (ok 30) (fn := Go.Proofs.Try.f8) (args := []) (K := herdsmanlaw2_told.qv Q) Go.Proofs.Try.func8 (by kernel_rfl) (by kernel_rfl) (by kernel_rfl) ?_
  refine evT_sound (ok 30) (drawD_sound (ok 30) herdsmanlaw2_told.scr) 600 (L := []) (leaf_of (fn := Go.Proofs.Try.f8) [] (by kernel_rfl) trivial) (castK h (by kernel_rfl))
/-! ### 10 herdsman/herdsmanref1.Within -/
def herdsmanref1_Within.sh (n : Int) (lo : Int) (hi : Int) (w : World) (Q : Int → World → Prop) : Prop :=
  NZ (IntKind.wrap .i64 ((IntKind.wrap .i64 (hi - lo)) + 1)) <|
  cond (decide ((Int.tmod n (IntKind.wrap .i64 ((IntKind.wrap .i64 (hi - lo)) + 1))) < 0))
  (Q (IntKind.wrap .i64 (lo + (IntKind.wrap .i64 ((IntKind.wrap .i64 ((IntKind.wrap .i64 ((Int.tmod n (IntKind.wrap .i64 ((IntKind.wrap .i64 (hi - lo)) + 1))) + hi)) - lo)) + 1)))) w)
  (Q (IntKind.wrap .i64 (lo + (Int.tmod n (IntKind.wrap .i64 ((IntKind.wrap .i64 (hi - lo)) + 1))))) w)
noncomputable def herdsmanref1_Within.scr : Scrs := []
def herdsmanref1_Within.R (Q : Int → World → Prop) (ρ : Env) (w : World) : Prop := evRes (cx 24) Go.Proofs.Try.f10.results.toList ρ w fun vs => herdsmanref1_Within.qv Q (resV vs) w
set_option maxRecDepth 100000 in
theorem herdsmanref1_Within.body (n : Int) (lo : Int) (hi : Int) (w : World) (Q : Int → World → Prop) (h : herdsmanref1_Within.sh n lo hi w Q) : herdsmanref1_Within.call n lo hi w Q := by
  refine call_fn (ok 24) (fn := Go.Proofs.Try.f10) (args := [.int .i64 n, .int .i64 lo, .int .i64 hi]) (K := herdsmanref1_Within.qv Q) Go.Proofs.Try.func10 (by kernel_rfl) (by kernel_rfl) (by kernel_rfl) ?_
  refine evT_sound (ok 24) (drawD_sound (ok 24) herdsmanref1_Within.scr) 600 (L := []) (leaf_of (fn := Go.Proofs.Try.f10) [] (by kernel_rfl) trivial) (castK h (by kernel_rfl))
/-! ### 29 herdsman/herdsmanref1.Cost -/
def herdsmanref1_Cost.sh (x : Int) (w : World) (Q : Int → World → Prop) : Prop :=
  NZ 8 <|
  cond ((Int.tmod x 8) == 7)
  (Q 255 w)
  (cond (decide (x < 160))
  (NZ 4 <|
  Q (IntKind.wrap .u8 (1 + (Int.tmod x 4))) w)
  (Q x w))
noncomputable def herdsmanref1_Cost.scr : Scrs := []
def herdsmanref1_Cost.R (Q : Int → World → Prop) (ρ : Env) (w : World) : Prop := evRes (cx 12) Go.Proofs.Try.f29.results.toList ρ w fun vs => herdsmanref1_Cost.qv Q (resV vs) w
set_option maxRecDepth 100000 in
theorem herdsmanref1_Cost.body (x : Int) (w : World) (Q : Int → World → Prop) (h : herdsmanref1_Cost.sh x w Q) : herdsmanref1_Cost.call x w Q := by
  refine call_fn (ok 12) (fn := Go.Proofs.Try.f29) (args := [.int .u8 x]) (K := herdsmanref1_Cost.qv Q) Go.Proofs.Try.func29 (by kernel_rfl) (by kernel_rfl) (by kernel_rfl) ?_
  refine evT_sound (ok 12) (drawD_sound (ok 12) herdsmanref1_Cost.scr) 600 (L := []) (leaf_of (fn := Go.Proofs.Try.f29) [] (by kernel_rfl) trivial) (castK h (by kernel_rfl))
/-! ### 19 herdsman/herdsmanref1.MadeTile -/
def herdsmanref1_MadeTile.b9 (P3 : Option Addr → Nat → Nat → Addr → Addr → Int → World → Prop) (Q : Int → Int → Option Addr → Nat → Nat → World → Prop) (c_a : Option Addr) (c_n : Nat) (c_c : Nat) (t6 : Addr) (t : Addr) (i : Int) (x : Int) (w : World) : Prop :=
  LdS (t.add 2) w.drew fun x41_a x41_n x41_c =>
  herdsmanref1_Cost.call x w.drew fun r43 w0_1 =>
  w0_1.cell? (t.add 2) = some (.slice x41_a x41_n x41_c) ∧
  Bx [.int .u8 r43] 5 w0_1 fun p44_s w0_2 =>
  w0_2.cell? (t.add 2) = some (.slice x41_a x41_n x41_c) ∧
  App P #[22, 22] 22 (.slice x41_a x41_n x41_c) (.slice (some p44_s) 1 1) w0_2 fun r45_a r45_n r45_c w0_3 =>
  St (t.add 2) (.slice r45_a r45_n r45_c) w0_3 fun w0_4 =>
  P3 c_a c_n c_c t6 t (IntKind.wrap .i64 (i + 1)) w0_4
def herdsmanref1_MadeTile.s3 (Q : Int → Int → Option Addr → Nat → Nat → World → Prop) (R3 : Option Addr → Nat → Nat → Addr → Addr → Int → World → Prop) (c_a : Option Addr) (c_n : Nat) (c_c : Nat) (t6 : Addr) (t : Addr) (i : Int) (w : World) : Prop :=
  LdI .i64 t w fun x18 =>
  LdI .i64 (t.add 1) w fun x20 =>
  cond (decide (i < (IntKind.wrap .i64 (x18 * x20))))
  (cond (decide ((c_n : Int) > 0))
  (NZ (c_n : Int) <|
  NZ (c_n : Int) <|
  InB (Int.tmod (IntKind.wrap .i64 (i + (IntKind.wrap .i64 ((IntKind.wrap .i64 (Int.tdiv i (c_n : Int))) * 5)))) (c_n : Int)) c_n <|
  wA c_a fun p =>
  LdI .u8 (p.add (((Int.tmod (IntKind.wrap .i64 (i + (IntKind.wrap .i64 ((IntKind.wrap .i64 (Int.tdiv i (c_n : Int))) * 5)))) (c_n : Int))).toNat * 1)) w fun x39 =>
  herdsmanref1_MadeTile.b9 R3 Q c_a c_n c_c t6 t i x39 w)
  (herdsmanref1_MadeTile.b9 R3 Q c_a c_n c_c t6 t i 1 w))
  (LdI .i64 (t.add 0) w fun x47_W =>
  LdI .i64 (t.add 1) w fun x47_H =>
  LdS (t.add 2) w fun x47_C_a x47_C_n x47_C_c =>
  St (t6.add 0) (.int .i64 x47_W) w fun w0_1 =>
  St (t6.add 1) (.int .i64 x47_H) w0_1 fun w0_2 =>
  St (t6.add 2) (.slice x47_C_a x47_C_n x47_C_c) w0_2 fun w0_3 =>
  LdI .i64 (t6.add 0) w0_3 fun r6_W =>
  LdI .i64 (t6.add 1) w0_3 fun r6_H =>
  LdS (t6.add 2) w0_3 fun r6_C_a r6_C_n r6_C_c =>
  Q r6_W r6_H r6_C_a r6_C_n r6_C_c w0_3)
def herdsmanref1_MadeTile.b3 (Q : Int → Int → Option Addr → Nat → Nat → World → Prop) : Nat → Option Addr → Nat → Nat → Addr → Addr → Int → World → Prop
  | 0, _, _, _, _, _, _, _ => False
  | k + 1, c_a, c_n, c_c, t6, t, i, w => herdsmanref1_MadeTile.s3 Q (herdsmanref1_MadeTile.b3 Q k) c_a c_n c_c t6 t i w
def herdsmanref1_MadeTile.sh (w0_1 : Int) (h0 : Int) (c_a : Option Addr) (c_n : Nat) (c_c : Nat) (w : World) (Q : Int → Int → Option Addr → Nat → Nat → World → Prop) : Prop :=
  Al T 24 w fun p6 w0_2 =>
  herdsmanref1_Within.call w0_1 1 16 w0_2 fun r12 w0_3 =>
  herdsmanref1_Within.call h0 1 16 w0_3 fun r14 w0_4 =>
  Al T 24 w0_4 fun t w0_5 =>
  St (t.add 0) (.int .i64 r12) w0_5 fun w0_6 =>
  St (t.add 1) (.int .i64 r14) w0_6 fun w0_7 =>
  St (t.add 2) (.slice none 0 0) w0_7 fun w0_8 =>
  ∃ k', herdsmanref1_MadeTile.b3 Q k' c_a c_n c_c p6 t 0 w0_8
noncomputable def herdsmanref1_MadeTile.scr : Scrs := [(9, .op 0 (.op 1 (.op 2 (.op 3 (.op 4 (.op 5 (.op 6 (.op 7 .done))))))))]
def herdsmanref1_MadeTile.R (Q : Int → Int → Option Addr → Nat → Nat → World → Prop) (ρ : Env) (w : World) : Prop := evRes (cx 48) Go.Proofs.Try.f19.results.toList ρ w fun vs => herdsmanref1_MadeTile.qv Q (resV vs) w
def herdsmanref1_MadeTile.d3 (K : Option Addr → Nat → Nat → Addr → Addr → Int → Prop) (ρ : Env) : Prop :=
  dS (ρ 2) fun c_a c_n c_c => dP (ρ 6) fun t6_p => wA t6_p fun t6 => dP (ρ 7) fun t_p => wA t_p fun t => dI .i64 (ρ 8) fun i => K c_a c_n c_c t6 t i
theorem herdsmanref1_MadeTile.d3_elim {K : Option Addr → Nat → Nat → Addr → Addr → Int → Prop} {ρ : Env} (h0 : herdsmanref1_MadeTile.d3 K ρ) : ∃ (c_a : Option Addr) (c_n : Nat) (c_c : Nat) (t6 : Addr) (t : Addr) (i : Int), ρ 2 = .slice c_a c_n c_c ∧ ρ 6 = .pointer (some t6) ∧ ρ 7 = .pointer (some t) ∧ ρ 8 = .int .i64 i ∧ K c_a c_n c_c t6 t i := by
  obtain ⟨c_a, c_n, c_c, e2, h1⟩ := dS_elim h0
  obtain ⟨t6_p, e6, h2⟩ := dP_elim h1
  obtain ⟨t6, rfl, h3⟩ := wA_elim h2
  obtain ⟨t_p, e7, h4⟩ := dP_elim h3
  obtain ⟨t, rfl, h5⟩ := wA_elim h4
  obtain ⟨i, e8, h6⟩ := dI_elim h5
  exact ⟨c_a, c_n, c_c, t6, t, i, e2, e6, e7, e8, h6⟩
def herdsmanref1_MadeTile.d9 (K : Option Addr → Nat → Nat → Addr → Addr → Int → Int → Prop) (ρ : Env) : Prop :=
  dS (ρ 2) fun c_a c_n c_c => dP (ρ 6) fun t6_p => wA t6_p fun t6 => dP (ρ 7) fun t_p => wA t_p fun t => dI .i64 (ρ 8) fun i => dI .u8 (ρ 9) fun x => K c_a c_n c_c t6 t i x
theorem herdsmanref1_MadeTile.d9_elim {K : Option Addr → Nat → Nat → Addr → Addr → Int → Int → Prop} {ρ : Env} (h0 : herdsmanref1_MadeTile.d9 K ρ) : ∃ (c_a : Option Addr) (c_n : Nat) (c_c : Nat) (t6 : Addr) (t : Addr) (i : Int) (x : Int), ρ 2 = .slice c_a c_n c_c ∧ ρ 6 = .pointer (some t6) ∧ ρ 7 = .pointer (some t) ∧ ρ 8 = .int .i64 i ∧ ρ 9 = .int .u8 x ∧ K c_a c_n c_c t6 t i x := by
  obtain ⟨c_a, c_n, c_c, e2, h1⟩ := dS_elim h0
  obtain ⟨t6_p, e6, h2⟩ := dP_elim h1
  obtain ⟨t6, rfl, h3⟩ := wA_elim h2
  obtain ⟨t_p, e7, h4⟩ := dP_elim h3
  obtain ⟨t, rfl, h5⟩ := wA_elim h4
  obtain ⟨i, e8, h6⟩ := dI_elim h5
  obtain ⟨x, e9, h7⟩ := dI_elim h6
  exact ⟨c_a, c_n, c_c, t6, t, i, x, e2, e6, e7, e8, e9, h7⟩
set_option maxRecDepth 100000 in
theorem herdsmanref1_MadeTile.f9 (P3 : Option Addr → Nat → Nat → Addr → Addr → Int → World → Prop) (Q : Int → Int → Option Addr → Nat → Nat → World → Prop) (HP3 : ∀ c_a c_n c_c t6 t i w, P3 c_a c_n c_c t6 t i w → ∀ ρ : Env, ρ 2 = .slice c_a c_n c_c → ρ 6 = .pointer (some t6) → ρ 7 = .pointer (some t) → ρ 8 = .int .i64 i → Fin (cx 48) (todoOf Go.Proofs.Try.f19 3) ρ w (herdsmanref1_MadeTile.R Q)) : ∀ c_a c_n c_c t6 t i x w, herdsmanref1_MadeTile.b9 P3 Q c_a c_n c_c t6 t i x w → ∀ ρ : Env, ρ 2 = .slice c_a c_n c_c → ρ 6 = .pointer (some t6) → ρ 7 = .pointer (some t) → ρ 8 = .int .i64 i → ρ 9 = .int .u8 x → Fin (cx 48) (todoOf Go.Proofs.Try.f19 9) ρ w (herdsmanref1_MadeTile.R Q) := by
  intro c_a c_n c_c t6 t i x w h ρ e2 e6 e7 e8 e9
  refine Fin.cut (ρ' := put (put (put (put (put (ρ) (some 2) (.slice c_a c_n c_c)) (some 6) (.pointer (some t6))) (some 7) (.pointer (some t))) (some 8) (.int .i64 i)) (some 9) (.int .u8 x)) ?_ (by rw [put_id e2, put_id e6, put_id e7, put_id e8, put_id e9])
  refine evT_sound (ok 48) (drawD_sound (ok 48) herdsmanref1_MadeTile.scr) 600 (L := [(3, fun ρ w => herdsmanref1_MadeTile.d3 (fun c_a c_n c_c t6 t i => P3 c_a c_n c_c t6 t i w) ρ)]) (leaf_of (fn := Go.Proofs.Try.f19) [3] (by kernel_rfl) ⟨fun ρ w h => by obtain ⟨c_a, c_n, c_c, t6, t, i, e2, e6, e7, e8, h⟩ := herdsmanref1_MadeTile.d3_elim (ρ := ρ) h; exact HP3 c_a c_n c_c t6 t i w h ρ e2 e6 e7 e8, trivial⟩) (castK h (by kernel_rfl))
set_option maxRecDepth 100000 in
theorem herdsmanref1_MadeTile.f3 (Q : Int → Int → Option Addr → Nat → Nat → World → Prop) : ∀ k c_a c_n c_c t6 t i w, herdsmanref1_MadeTile.b3 Q k c_a c_n c_c t6 t i w → ∀ ρ : Env, ρ 2 = .slice c_a c_n c_c → ρ 6 = .pointer (some t6) → ρ 7 = .pointer (some t) → ρ 8 = .int .i64 i → Fin (cx 48) (todoOf Go.Proofs.Try.f19 3) ρ w (herdsmanref1_MadeTile.R Q) := by
  intro k
  induction k with
  | zero => intro c_a c_n c_c t6 t i w h; exact h.elim
  | succ k ih =>
    intro c_a c_n c_c t6 t i w h ρ e2 e6 e7 e8
    have h : herdsmanref1_MadeTile.s3 Q (herdsmanref1_MadeTile.b3 Q k) c_a c_n c_c t6 t i w := h
    refine Fin.cut (ρ' := put (put (put (put (ρ) (some 2) (.slice c_a c_n c_c)) (some 6) (.pointer (some t6))) (some 7) (.pointer (some t))) (some 8) (.int .i64 i)) ?_ (by rw [put_id e2, put_id e6, put_id e7, put_id e8])
    refine evT_sound (ok 48) (drawD_sound (ok 48) herdsmanref1_MadeTile.scr) 600 (L := [(9, fun ρ w => herdsmanref1_MadeTile.d9 (fun c_a c_n c_c t6 t i x => herdsmanref1_MadeTile.b9 (herdsmanref1_MadeTile.b3 Q k) Q c_a c_n c_c t6 t i x w) ρ)]) (leaf_of (fn := Go.Proofs.Try.f19) [9, 9] (by kernel_rfl) ⟨fun ρ w h => by obtain ⟨c_a, c_n, c_c, t6, t, i, x, e2, e6, e7, e8, e9, h⟩ := herdsmanref1_MadeTile.d9_elim (ρ := ρ) h; exact herdsmanref1_MadeTile.f9 (herdsmanref1_MadeTile.b3 Q k) Q ih c_a c_n c_c t6 t i x w h ρ e2 e6 e7 e8 e9, trivial⟩) (castK h (by kernel_rfl))
set_option maxRecDepth 100000 in
theorem herdsmanref1_MadeTile.body (w0_1 : Int) (h0 : Int) (c_a : Option Addr) (c_n : Nat) (c_c : Nat) (w : World) (Q : Int → Int → Option Addr → Nat → Nat → World → Prop) (h : herdsmanref1_MadeTile.sh w0_1 h0 c_a c_n c_c w Q) : herdsmanref1_MadeTile.call w0_1 h0 c_a c_n c_c w Q := by
  refine call_fn (ok 48) (fn := Go.Proofs.Try.f19) (args := [.int .i64 w0_1, .int .i64 h0, .slice c_a c_n c_c]) (K := herdsmanref1_MadeTile.qv Q) Go.Proofs.Try.func19 (by kernel_rfl) (by kernel_rfl) (by kernel_rfl) ?_
  refine evT_sound (ok 48) (drawD_sound (ok 48) herdsmanref1_MadeTile.scr) 600 (L := [(3, fun ρ w => herdsmanref1_MadeTile.d3 (fun c_a c_n c_c t6 t i => ∃ k', herdsmanref1_MadeTile.b3 Q k' c_a c_n c_c t6 t i w) ρ)]) (leaf_of (fn := Go.Proofs.Try.f19) [3] (by kernel_rfl) ⟨fun ρ w h => by obtain ⟨c_a, c_n, c_c, t6, t, i, e2, e6, e7, e8, h⟩ := herdsmanref1_MadeTile.d3_elim (ρ := ρ) h; obtain ⟨k', h⟩ := h; exact herdsmanref1_MadeTile.f3 Q k' c_a c_n c_c t6 t i w h ρ e2 e6 e7 e8, trivial⟩) (castK h (by kernel_rfl))
/-! ### 20 herdsman/herdsmanref1.OwnTile -/
def herdsmanref1_OwnTile.sh (t_W : Int) (t_H : Int) (t_C_a : Option Addr) (t_C_n : Nat) (t_C_c : Nat) (w : World) (Q : Int → Int → Option Addr → Nat → Nat → World → Prop) : Prop :=
  Bx [.int .i64 t_W, .int .i64 t_H, .slice t_C_a t_C_n t_C_c] 24 w fun t_b w0_1 =>
  Al T 24 w0_1 fun p2 w0_2 =>
  Bx [] 5 w0_2 fun p3_s w0_3 =>
  LdS (t_b.add 2) w0_3 fun x5_a x5_n x5_c =>
  App P #[22, 22] 22 (.slice (some p3_s) 0 0) (.slice x5_a x5_n x5_c) w0_3 fun r6_a r6_n r6_c w0_4 =>
  St (t_b.add 2) (.slice r6_a r6_n r6_c) w0_4 fun w0_5 =>
  LdI .i64 (t_b.add 0) w0_5 fun x8_W =>
  LdI .i64 (t_b.add 1) w0_5 fun x8_H =>
  LdS (t_b.add 2) w0_5 fun x8_C_a x8_C_n x8_C_c =>
  St (p2.add 0) (.int .i64 x8_W) w0_5 fun w0_6 =>
  St (p2.add 1) (.int .i64 x8_H) w0_6 fun w0_7 =>
  St (p2.add 2) (.slice x8_C_a x8_C_n x8_C_c) w0_7 fun w0_8 =>
  LdI .i64 (p2.add 0) w0_8 fun r2_W =>
  LdI .i64 (p2.add 1) w0_8 fun r2_H =>
  LdS (p2.add 2) w0_8 fun r2_C_a r2_C_n r2_C_c =>
  Q r2_W r2_H r2_C_a r2_C_n r2_C_c w0_8
noncomputable def herdsmanref1_OwnTile.scr : Scrs := []
def herdsmanref1_OwnTile.R (Q : Int → Int → Option Addr → Nat → Nat → World → Prop) (ρ : Env) (w : World) : Prop := evRes (cx 9) Go.Proofs.Try.f20.results.toList ρ w fun vs => herdsmanref1_OwnTile.qv Q (resV vs) w
set_option maxRecDepth 100000 in
theorem herdsmanref1_OwnTile.body (t_W : Int) (t_H : Int) (t_C_a : Option Addr) (t_C_n : Nat) (t_C_c : Nat) (w : World) (Q : Int → Int → Option Addr → Nat → Nat → World → Prop) (h : herdsmanref1_OwnTile.sh t_W t_H t_C_a t_C_n t_C_c w Q) : herdsmanref1_OwnTile.call t_W t_H t_C_a t_C_n t_C_c w Q := by
  refine call_fn (ok 9) (fn := Go.Proofs.Try.f20) (args := [.agg #[.int .i64 t_W, .int .i64 t_H, .slice t_C_a t_C_n t_C_c]]) (K := herdsmanref1_OwnTile.qv Q) Go.Proofs.Try.func20 (by kernel_rfl) (by kernel_rfl) (by kernel_rfl) ?_
  refine evT_sound (ok 9) (drawD_sound (ok 9) herdsmanref1_OwnTile.scr) 600 (L := []) (leaf_of (fn := Go.Proofs.Try.f20) [] (by kernel_rfl) trivial) (castK h (by kernel_rfl))
/-! ### 9 herdsman/herdsmanlaw2.near -/
def herdsmanlaw2_near.sh (t_W : Int) (t_H : Int) (t_C_a : Option Addr) (t_C_n : Nat) (t_C_c : Nat) (w0_1 : Int) (h0 : Int) (raw : Bool) (w : World) (Q : Int → Int → Option Addr → Nat → Nat → World → Prop) : Prop :=
  Bx [.int .i64 t_W, .int .i64 t_H, .slice t_C_a t_C_n t_C_c] 24 w fun t_b w0_2 =>
  Al T 24 w0_2 fun p8 w0_3 =>
  cond raw
  (LdI .i64 (t_b.add 0) w0_3 fun x10_W =>
  LdI .i64 (t_b.add 1) w0_3 fun x10_H =>
  LdS (t_b.add 2) w0_3 fun x10_C_a x10_C_n x10_C_c =>
  herdsmanref1_OwnTile.call x10_W x10_H x10_C_a x10_C_n x10_C_c w0_3 fun r11_0 r11_1 r11_2_a r11_2_n r11_2_c w0_4 =>
  St (p8.add 0) (.int .i64 r11_0) w0_4 fun w0_5 =>
  St (p8.add 1) (.int .i64 r11_1) w0_5 fun w0_6 =>
  St (p8.add 2) (.slice r11_2_a r11_2_n r11_2_c) w0_6 fun w0_7 =>
  LdI .i64 (p8.add 0) w0_7 fun r8_W =>
  LdI .i64 (p8.add 1) w0_7 fun r8_H =>
  LdS (p8.add 2) w0_7 fun r8_C_a r8_C_n r8_C_c =>
  Q r8_W r8_H r8_C_a r8_C_n r8_C_c w0_7)
  (LdS (t_b.add 2) w0_3 fun x15_a x15_n x15_c =>
  herdsmanref1_MadeTile.call w0_1 h0 x15_a x15_n x15_c w0_3 fun r16_0 r16_1 r16_2_a r16_2_n r16_2_c w0_8 =>
  St (p8.add 0) (.int .i64 r16_0) w0_8 fun w0_9 =>
  St (p8.add 1) (.int .i64 r16_1) w0_9 fun w0_10 =>
  St (p8.add 2) (.slice r16_2_a r16_2_n r16_2_c) w0_10 fun w0_11 =>
  LdI .i64 (p8.add 0) w0_11 fun r8_W_1 =>
  LdI .i64 (p8.add 1) w0_11 fun r8_H_1 =>
  LdS (p8.add 2) w0_11 fun r8_C_a_1 r8_C_n_1 r8_C_c_1 =>
  Q r8_W_1 r8_H_1 r8_C_a_1 r8_C_n_1 r8_C_c_1 w0_11)
noncomputable def herdsmanlaw2_near.scr : Scrs := []
def herdsmanlaw2_near.R (Q : Int → Int → Option Addr → Nat → Nat → World → Prop) (ρ : Env) (w : World) : Prop := evRes (cx 17) Go.Proofs.Try.f9.results.toList ρ w fun vs => herdsmanlaw2_near.qv Q (resV vs) w
set_option maxRecDepth 100000 in
theorem herdsmanlaw2_near.body (t_W : Int) (t_H : Int) (t_C_a : Option Addr) (t_C_n : Nat) (t_C_c : Nat) (w0_1 : Int) (h0 : Int) (raw : Bool) (w : World) (Q : Int → Int → Option Addr → Nat → Nat → World → Prop) (h : herdsmanlaw2_near.sh t_W t_H t_C_a t_C_n t_C_c w0_1 h0 raw w Q) : herdsmanlaw2_near.call t_W t_H t_C_a t_C_n t_C_c w0_1 h0 raw w Q := by
  refine call_fn (ok 17) (fn := Go.Proofs.Try.f9) (args := [.agg #[.int .i64 t_W, .int .i64 t_H, .slice t_C_a t_C_n t_C_c], .int .i64 w0_1, .int .i64 h0, .bool raw]) (K := herdsmanlaw2_near.qv Q) Go.Proofs.Try.func9 (by kernel_rfl) (by kernel_rfl) (by kernel_rfl) ?_
  refine evT_sound (ok 17) (drawD_sound (ok 17) herdsmanlaw2_near.scr) 600 (L := []) (leaf_of (fn := Go.Proofs.Try.f9) [] (by kernel_rfl) trivial) (castK h (by kernel_rfl))
/-! ### 12 herdsman/herdsmanref1.In -/
def herdsmanref1_In.sh (n : Int) (lo : Int) (hi : Int) (w : World) (Q : Bool → World → Prop) : Prop :=
  cond (decide (n ≥ lo))
  (Q (decide (n ≤ hi)) w)
  (Q false w)
noncomputable def herdsmanref1_In.scr : Scrs := []
def herdsmanref1_In.R (Q : Bool → World → Prop) (ρ : Env) (w : World) : Prop := evRes (cx 15) Go.Proofs.Try.f12.results.toList ρ w fun vs => herdsmanref1_In.qv Q (resV vs) w
set_option maxRecDepth 100000 in
theorem herdsmanref1_In.body (n : Int) (lo : Int) (hi : Int) (w : World) (Q : Bool → World → Prop) (h : herdsmanref1_In.sh n lo hi w Q) : herdsmanref1_In.call n lo hi w Q := by
  refine call_fn (ok 15) (fn := Go.Proofs.Try.f12) (args := [.int .i64 n, .int .i64 lo, .int .i64 hi]) (K := herdsmanref1_In.qv Q) Go.Proofs.Try.func12 (by kernel_rfl) (by kernel_rfl) (by kernel_rfl) ?_
  refine evT_sound (ok 15) (drawD_sound (ok 15) herdsmanref1_In.scr) 600 (L := []) (leaf_of (fn := Go.Proofs.Try.f12) [] (by kernel_rfl) trivial) (castK h (by kernel_rfl))
/-! ### 24 herdsman/herdsmanref1.full -/
def herdsmanref1_full.s2 (Q : Bool → World → Prop) (R2 : Option Addr → Nat → Nat → Int → World → Prop) (c_a : Option Addr) (c_n : Nat) (c_c : Nat) (i : Int) (w : World) : Prop :=
  cond (decide (i < (c_n : Int)))
  (InB i c_n <|
  wA c_a fun p =>
  LdI .u8 (p.add (i.toNat * 1)) w fun x13 =>
  cond (x13 == 0)
  (Q false w)
  (R2 c_a c_n c_c (IntKind.wrap .i64 (i + 1)) w))
  (Q true w)
def herdsmanref1_full.b2 (Q : Bool → World → Prop) : Nat → Option Addr → Nat → Nat → Int → World → Prop
  | 0, _, _, _, _, _ => False
  | k + 1, c_a, c_n, c_c, i, w => herdsmanref1_full.s2 Q (herdsmanref1_full.b2 Q k) c_a c_n c_c i w
def herdsmanref1_full.sh (c_a : Option Addr) (c_n : Nat) (c_c : Nat) (w : World) (Q : Bool → World → Prop) : Prop :=
  ∃ k', herdsmanref1_full.b2 Q k' c_a c_n c_c 0 w
noncomputable def herdsmanref1_full.scr : Scrs := []
def herdsmanref1_full.R (Q : Bool → World → Prop) (ρ : Env) (w : World) : Prop := evRes (cx 15) Go.Proofs.Try.f24.results.toList ρ w fun vs => herdsmanref1_full.qv Q (resV vs) w
def herdsmanref1_full.d2 (K : Option Addr → Nat → Nat → Int → Prop) (ρ : Env) : Prop :=
  dS (ρ 0) fun c_a c_n c_c => dI .i64 (ρ 3) fun i => K c_a c_n c_c i
theorem herdsmanref1_full.d2_elim {K : Option Addr → Nat → Nat → Int → Prop} {ρ : Env} (h0 : herdsmanref1_full.d2 K ρ) : ∃ (c_a : Option Addr) (c_n : Nat) (c_c : Nat) (i : Int), ρ 0 = .slice c_a c_n c_c ∧ ρ 3 = .int .i64 i ∧ K c_a c_n c_c i := by
  obtain ⟨c_a, c_n, c_c, e0, h1⟩ := dS_elim h0
  obtain ⟨i, e3, h2⟩ := dI_elim h1
  exact ⟨c_a, c_n, c_c, i, e0, e3, h2⟩
set_option maxRecDepth 100000 in
theorem herdsmanref1_full.f2 (Q : Bool → World → Prop) : ∀ k c_a c_n c_c i w, herdsmanref1_full.b2 Q k c_a c_n c_c i w → ∀ ρ : Env, ρ 0 = .slice c_a c_n c_c → ρ 3 = .int .i64 i → Fin (cx 15) (todoOf Go.Proofs.Try.f24 2) ρ w (herdsmanref1_full.R Q) := by
  intro k
  induction k with
  | zero => intro c_a c_n c_c i w h; exact h.elim
  | succ k ih =>
    intro c_a c_n c_c i w h ρ e0 e3
    have h : herdsmanref1_full.s2 Q (herdsmanref1_full.b2 Q k) c_a c_n c_c i w := h
    refine Fin.cut (ρ' := put (put (ρ) (some 0) (.slice c_a c_n c_c)) (some 3) (.int .i64 i)) ?_ (by rw [put_id e0, put_id e3])
    refine evT_sound (ok 15) (drawD_sound (ok 15) herdsmanref1_full.scr) 600 (L := [(2, fun ρ w => herdsmanref1_full.d2 (fun c_a c_n c_c i => herdsmanref1_full.b2 Q k c_a c_n c_c i w) ρ)]) (leaf_of (fn := Go.Proofs.Try.f24) [2] (by kernel_rfl) ⟨fun ρ w h => by obtain ⟨c_a, c_n, c_c, i, e0, e3, h⟩ := herdsmanref1_full.d2_elim (ρ := ρ) h; exact ih c_a c_n c_c i w h ρ e0 e3, trivial⟩) (castK h (by kernel_rfl))
set_option maxRecDepth 100000 in
theorem herdsmanref1_full.body (c_a : Option Addr) (c_n : Nat) (c_c : Nat) (w : World) (Q : Bool → World → Prop) (h : herdsmanref1_full.sh c_a c_n c_c w Q) : herdsmanref1_full.call c_a c_n c_c w Q := by
  refine call_fn (ok 15) (fn := Go.Proofs.Try.f24) (args := [.slice c_a c_n c_c]) (K := herdsmanref1_full.qv Q) Go.Proofs.Try.func24 (by kernel_rfl) (by kernel_rfl) (by kernel_rfl) ?_
  refine evT_sound (ok 15) (drawD_sound (ok 15) herdsmanref1_full.scr) 600 (L := [(2, fun ρ w => herdsmanref1_full.d2 (fun c_a c_n c_c i => ∃ k', herdsmanref1_full.b2 Q k' c_a c_n c_c i w) ρ)]) (leaf_of (fn := Go.Proofs.Try.f24) [2] (by kernel_rfl) ⟨fun ρ w h => by obtain ⟨c_a, c_n, c_c, i, e0, e3, h⟩ := herdsmanref1_full.d2_elim (ρ := ρ) h; obtain ⟨k', h⟩ := h; exact herdsmanref1_full.f2 Q k' c_a c_n c_c i w h ρ e0 e3, trivial⟩) (castK h (by kernel_rfl))
/-! ### 11 herdsman/herdsmanref1.MayTile -/
def herdsmanref1_MayTile.sh (t_W : Int) (t_H : Int) (t_C_a : Option Addr) (t_C_n : Nat) (t_C_c : Nat) (w : World) (Q : Bool → World → Prop) : Prop :=
  Bx [.int .i64 t_W, .int .i64 t_H, .slice t_C_a t_C_n t_C_c] 24 w fun t_b w0_1 =>
  LdI .i64 t_b w0_1 fun x4 =>
  herdsmanref1_In.call x4 1 16 w0_1 fun r5 w0_2 =>
  cond (!r5)
  (Q false w0_2)
  (LdI .i64 (t_b.add 1) w0_2 fun x9 =>
  herdsmanref1_In.call x9 1 16 w0_2 fun r10 w0_3 =>
  cond (!r10)
  (Q false w0_3)
  (LdS (t_b.add 2) w0_3 fun x15_a x15_n x15_c =>
  LdI .i64 t_b w0_3 fun x18 =>
  LdI .i64 (t_b.add 1) w0_3 fun x20 =>
  cond ((x15_n : Int) != (IntKind.wrap .i64 (x18 * x20)))
  (Q false w0_3)
  (LdS (t_b.add 2) w0_3 fun x25_a x25_n x25_c =>
  herdsmanref1_full.call x25_a x25_n x25_c w0_3 fun r26 w0_4 =>
  Q r26 w0_4)))
noncomputable def herdsmanref1_MayTile.scr : Scrs := []
def herdsmanref1_MayTile.R (Q : Bool → World → Prop) (ρ : Env) (w : World) : Prop := evRes (cx 27) Go.Proofs.Try.f11.results.toList ρ w fun vs => herdsmanref1_MayTile.qv Q (resV vs) w
set_option maxRecDepth 100000 in
theorem herdsmanref1_MayTile.body (t_W : Int) (t_H : Int) (t_C_a : Option Addr) (t_C_n : Nat) (t_C_c : Nat) (w : World) (Q : Bool → World → Prop) (h : herdsmanref1_MayTile.sh t_W t_H t_C_a t_C_n t_C_c w Q) : herdsmanref1_MayTile.call t_W t_H t_C_a t_C_n t_C_c w Q := by
  refine call_fn (ok 27) (fn := Go.Proofs.Try.f11) (args := [.agg #[.int .i64 t_W, .int .i64 t_H, .slice t_C_a t_C_n t_C_c]]) (K := herdsmanref1_MayTile.qv Q) Go.Proofs.Try.func11 (by kernel_rfl) (by kernel_rfl) (by kernel_rfl) ?_
  refine evT_sound (ok 27) (drawD_sound (ok 27) herdsmanref1_MayTile.scr) 600 (L := []) (leaf_of (fn := Go.Proofs.Try.f11) [] (by kernel_rfl) trivial) (castK h (by kernel_rfl))
/-! ### 35 herdsman/herdsmanref1.May -/
def herdsmanref1_May.sh (w0_1 : Int) (h0 : Int) (w : World) (Q : Bool → World → Prop) : Prop :=
  herdsmanref1_In.call w0_1 1 1024 w fun r6 w0_2 =>
  cond r6
  (herdsmanref1_In.call h0 1 1024 w0_2 fun r9 w0_3 =>
  Q r9 w0_3)
  (Q false w0_2)
noncomputable def herdsmanref1_May.scr : Scrs := []
def herdsmanref1_May.R (Q : Bool → World → Prop) (ρ : Env) (w : World) : Prop := evRes (cx 11) Go.Proofs.Try.f35.results.toList ρ w fun vs => herdsmanref1_May.qv Q (resV vs) w
set_option maxRecDepth 100000 in
theorem herdsmanref1_May.body (w0_1 : Int) (h0 : Int) (w : World) (Q : Bool → World → Prop) (h : herdsmanref1_May.sh w0_1 h0 w Q) : herdsmanref1_May.call w0_1 h0 w Q := by
  refine call_fn (ok 11) (fn := Go.Proofs.Try.f35) (args := [.int .i64 w0_1, .int .i64 h0]) (K := herdsmanref1_May.qv Q) Go.Proofs.Try.func35 (by kernel_rfl) (by kernel_rfl) (by kernel_rfl) ?_
  refine evT_sound (ok 11) (drawD_sound (ok 11) herdsmanref1_May.scr) 600 (L := []) (leaf_of (fn := Go.Proofs.Try.f35) [] (by kernel_rfl) trivial) (castK h (by kernel_rfl))
/-! ### 34 herdsman/herdsmanref1.IsCell -/
def herdsmanref1_IsCell.sh (w0_1 : Int) (h0 : Int) (c : Int) (w : World) (Q : Bool → World → Prop) : Prop :=
  herdsmanref1_May.call w0_1 h0 w fun r9 w0_2 =>
  cond r9
  (herdsmanref1_In.call c 0 (IntKind.wrap .i64 ((IntKind.wrap .i64 (w0_1 * h0)) - 1)) w0_2 fun r16 w0_3 =>
  Q r16 w0_3)
  (Q false w0_2)
noncomputable def herdsmanref1_IsCell.scr : Scrs := []
def herdsmanref1_IsCell.R (Q : Bool → World → Prop) (ρ : Env) (w : World) : Prop := evRes (cx 18) Go.Proofs.Try.f34.results.toList ρ w fun vs => herdsmanref1_IsCell.qv Q (resV vs) w
set_option maxRecDepth 100000 in
theorem herdsmanref1_IsCell.body (w0_1 : Int) (h0 : Int) (c : Int) (w : World) (Q : Bool → World → Prop) (h : herdsmanref1_IsCell.sh w0_1 h0 c w Q) : herdsmanref1_IsCell.call w0_1 h0 c w Q := by
  refine call_fn (ok 18) (fn := Go.Proofs.Try.f34) (args := [.int .i64 w0_1, .int .i64 h0, .int .i64 c]) (K := herdsmanref1_IsCell.qv Q) Go.Proofs.Try.func34 (by kernel_rfl) (by kernel_rfl) (by kernel_rfl) ?_
  refine evT_sound (ok 18) (drawD_sound (ok 18) herdsmanref1_IsCell.scr) 600 (L := []) (leaf_of (fn := Go.Proofs.Try.f34) [] (by kernel_rfl) trivial) (castK h (by kernel_rfl))
/-! ### 28 herdsman/herdsmanref1.Step -/
def herdsmanref1_Step.b12 (Q : Int → World → Prop) (w0_1 : Int) (h0 : Int) (x : Int) (y : Int) (w : World) : Prop :=
  herdsmanref1_In.call x 0 (IntKind.wrap .i64 (w0_1 - 1)) w fun r46 w0_2 =>
  cond (!r46)
  (Q (-1) w0_2)
  (herdsmanref1_In.call y 0 (IntKind.wrap .i64 (h0 - 1)) w0_2 fun r52 w0_3 =>
  cond (!r52)
  (Q (-1) w0_3)
  (Q (IntKind.wrap .i64 ((IntKind.wrap .i64 (y * w0_1)) + x)) w0_3))
def herdsmanref1_Step.b10 (Q : Int → World → Prop) (w0_1 : Int) (h0 : Int) (side : Int) (x : Int) (y : Int) (w : World) : Prop :=
  cond (side == 3)
  (herdsmanref1_Step.b12 Q w0_1 h0 (IntKind.wrap .i64 (x - 1)) y w)
  (herdsmanref1_Step.b12 Q w0_1 h0 x y w)
def herdsmanref1_Step.b8 (Q : Int → World → Prop) (w0_1 : Int) (h0 : Int) (side : Int) (x : Int) (y : Int) (w : World) : Prop :=
  cond (side == 2)
  (herdsmanref1_Step.b10 Q w0_1 h0 side x (IntKind.wrap .i64 (y + 1)) w)
  (herdsmanref1_Step.b10 Q w0_1 h0 side x y w)
def herdsmanref1_Step.b6 (Q : Int → World → Prop) (w0_1 : Int) (h0 : Int) (side : Int) (x : Int) (y : Int) (w : World) : Prop :=
  cond (side == 1)
  (herdsmanref1_Step.b8 Q w0_1 h0 side (IntKind.wrap .i64 (x + 1)) y w)
  (herdsmanref1_Step.b8 Q w0_1 h0 side x y w)
def herdsmanref1_Step.sh (w0_1 : Int) (h0 : Int) (c : Int) (side : Int) (w : World) (Q : Int → World → Prop) : Prop :=
  herdsmanref1_IsCell.call w0_1 h0 c w fun r14 w0_2 =>
  cond (!r14)
  (Q (-1) w0_2)
  (herdsmanref1_In.call side 0 4 w0_2 fun r18 w0_3 =>
  cond (!r18)
  (Q (-1) w0_3)
  (NZ w0_1 <|
  NZ w0_1 <|
  cond (side == 0)
  (herdsmanref1_Step.b6 Q w0_1 h0 side (Int.tmod c w0_1) (IntKind.wrap .i64 ((IntKind.wrap .i64 (Int.tdiv c w0_1)) - 1)) w0_3.drew)
  (herdsmanref1_Step.b6 Q w0_1 h0 side (Int.tmod c w0_1) (IntKind.wrap .i64 (Int.tdiv c w0_1)) w0_3.drew)))
noncomputable def herdsmanref1_Step.scr : Scrs := [(3, .op 0 (.op 1 (.op 2 (.op 3 (.op 4 (.op 5 (.op 6 (.op 7 .done))))))))]
def herdsmanref1_Step.R (Q : Int → World → Prop) (ρ : Env) (w : World) : Prop := evRes (cx 60) Go.Proofs.Try.f28.results.toList ρ w fun vs => herdsmanref1_Step.qv Q (resV vs) w
def herdsmanref1_Step.d6 (K : Int → Int → Int → Int → Int → Prop) (ρ : Env) : Prop :=
  dI .i64 (ρ 0) fun w0 => dI .i64 (ρ 1) fun h0 => dI .i64 (ρ 3) fun side => dI .i64 (ρ 9) fun x => dI .i64 (ρ 10) fun y => K w0 h0 side x y
theorem herdsmanref1_Step.d6_elim {K : Int → Int → Int → Int → Int → Prop} {ρ : Env} (h0 : herdsmanref1_Step.d6 K ρ) : ∃ (w0_1 : Int) (h0 : Int) (side : Int) (x : Int) (y : Int), ρ 0 = .int .i64 w0_1 ∧ ρ 1 = .int .i64 h0 ∧ ρ 3 = .int .i64 side ∧ ρ 9 = .int .i64 x ∧ ρ 10 = .int .i64 y ∧ K w0_1 h0 side x y := by
  obtain ⟨w0, e0, h1⟩ := dI_elim h0
  obtain ⟨h0, e1, h2⟩ := dI_elim h1
  obtain ⟨side, e3, h3⟩ := dI_elim h2
  obtain ⟨x, e9, h4⟩ := dI_elim h3
  obtain ⟨y, e10, h5⟩ := dI_elim h4
  exact ⟨w0, h0, side, x, y, e0, e1, e3, e9, e10, h5⟩
def herdsmanref1_Step.d8 (K : Int → Int → Int → Int → Int → Prop) (ρ : Env) : Prop :=
  dI .i64 (ρ 0) fun w0 => dI .i64 (ρ 1) fun h0 => dI .i64 (ρ 3) fun side => dI .i64 (ρ 9) fun x => dI .i64 (ρ 10) fun y => K w0 h0 side x y
theorem herdsmanref1_Step.d8_elim {K : Int → Int → Int → Int → Int → Prop} {ρ : Env} (h0 : herdsmanref1_Step.d8 K ρ) : ∃ (w0_1 : Int) (h0 : Int) (side : Int) (x : Int) (y : Int), ρ 0 = .int .i64 w0_1 ∧ ρ 1 = .int .i64 h0 ∧ ρ 3 = .int .i64 side ∧ ρ 9 = .int .i64 x ∧ ρ 10 = .int .i64 y ∧ K w0_1 h0 side x y := by
  obtain ⟨w0, e0, h1⟩ := dI_elim h0
  obtain ⟨h0, e1, h2⟩ := dI_elim h1
  obtain ⟨side, e3, h3⟩ := dI_elim h2
  obtain ⟨x, e9, h4⟩ := dI_elim h3
  obtain ⟨y, e10, h5⟩ := dI_elim h4
  exact ⟨w0, h0, side, x, y, e0, e1, e3, e9, e10, h5⟩
def herdsmanref1_Step.d10 (K : Int → Int → Int → Int → Int → Prop) (ρ : Env) : Prop :=
  dI .i64 (ρ 0) fun w0 => dI .i64 (ρ 1) fun h0 => dI .i64 (ρ 3) fun side => dI .i64 (ρ 9) fun x => dI .i64 (ρ 10) fun y => K w0 h0 side x y
theorem herdsmanref1_Step.d10_elim {K : Int → Int → Int → Int → Int → Prop} {ρ : Env} (h0 : herdsmanref1_Step.d10 K ρ) : ∃ (w0_1 : Int) (h0 : Int) (side : Int) (x : Int) (y : Int), ρ 0 = .int .i64 w0_1 ∧ ρ 1 = .int .i64 h0 ∧ ρ 3 = .int .i64 side ∧ ρ 9 = .int .i64 x ∧ ρ 10 = .int .i64 y ∧ K w0_1 h0 side x y := by
  obtain ⟨w0, e0, h1⟩ := dI_elim h0
  obtain ⟨h0, e1, h2⟩ := dI_elim h1
  obtain ⟨side, e3, h3⟩ := dI_elim h2
  obtain ⟨x, e9, h4⟩ := dI_elim h3
  obtain ⟨y, e10, h5⟩ := dI_elim h4
  exact ⟨w0, h0, side, x, y, e0, e1, e3, e9, e10, h5⟩
def herdsmanref1_Step.d12 (K : Int → Int → Int → Int → Prop) (ρ : Env) : Prop :=
  dI .i64 (ρ 0) fun w0 => dI .i64 (ρ 1) fun h0 => dI .i64 (ρ 9) fun x => dI .i64 (ρ 10) fun y => K w0 h0 x y
theorem herdsmanref1_Step.d12_elim {K : Int → Int → Int → Int → Prop} {ρ : Env} (h0 : herdsmanref1_Step.d12 K ρ) : ∃ (w0_1 : Int) (h0 : Int) (x : Int) (y : Int), ρ 0 = .int .i64 w0_1 ∧ ρ 1 = .int .i64 h0 ∧ ρ 9 = .int .i64 x ∧ ρ 10 = .int .i64 y ∧ K w0_1 h0 x y := by
  obtain ⟨w0, e0, h1⟩ := dI_elim h0
  obtain ⟨h0, e1, h2⟩ := dI_elim h1
  obtain ⟨x, e9, h3⟩ := dI_elim h2
  obtain ⟨y, e10, h4⟩ := dI_elim h3
  exact ⟨w0, h0, x, y, e0, e1, e9, e10, h4⟩
set_option maxRecDepth 100000 in
theorem herdsmanref1_Step.f12 (Q : Int → World → Prop) : ∀ w0_1 h0 x y w, herdsmanref1_Step.b12 Q w0_1 h0 x y w → ∀ ρ : Env, ρ 0 = .int .i64 w0_1 → ρ 1 = .int .i64 h0 → ρ 9 = .int .i64 x → ρ 10 = .int .i64 y → Fin (cx 60) (todoOf Go.Proofs.Try.f28 12) ρ w (herdsmanref1_Step.R Q) := by
  intro w0_1 h0 x y w h ρ e0 e1 e9 e10
  refine Fin.cut (ρ' := put (put (put (put (ρ) (some 0) (.int .i64 w0_1)) (some 1) (.int .i64 h0)) (some 9) (.int .i64 x)) (some 10) (.int .i64 y)) ?_ (by rw [put_id e0, put_id e1, put_id e9, put_id e10])
  refine evT_sound (ok 60) (drawD_sound (ok 60) herdsmanref1_Step.scr) 600 (L := []) (leaf_of (fn := Go.Proofs.Try.f28) [] (by kernel_rfl) trivial) (castK h (by kernel_rfl))
set_option maxRecDepth 100000 in
theorem herdsmanref1_Step.f10 (Q : Int → World → Prop) : ∀ w0_1 h0 side x y w, herdsmanref1_Step.b10 Q w0_1 h0 side x y w → ∀ ρ : Env, ρ 0 = .int .i64 w0_1 → ρ 1 = .int .i64 h0 → ρ 3 = .int .i64 side → ρ 9 = .int .i64 x → ρ 10 = .int .i64 y → Fin (cx 60) (todoOf Go.Proofs.Try.f28 10) ρ w (herdsmanref1_Step.R Q) := by
  intro w0_1 h0 side x y w h ρ e0 e1 e3 e9 e10
  refine Fin.cut (ρ' := put (put (put (put (put (ρ) (some 0) (.int .i64 w0_1)) (some 1) (.int .i64 h0)) (some 3) (.int .i64 side)) (some 9) (.int .i64 x)) (some 10) (.int .i64 y)) ?_ (by rw [put_id e0, put_id e1, put_id e3, put_id e9, put_id e10])
  refine evT_sound (ok 60) (drawD_sound (ok 60) herdsmanref1_Step.scr) 600 (L := [(12, fun ρ w => herdsmanref1_Step.d12 (fun w0_1 h0 x y => herdsmanref1_Step.b12 Q w0_1 h0 x y w) ρ)]) (leaf_of (fn := Go.Proofs.Try.f28) [12, 12] (by kernel_rfl) ⟨fun ρ w h => by obtain ⟨w0_1, h0, x, y, e0, e1, e9, e10, h⟩ := herdsmanref1_Step.d12_elim (ρ := ρ) h; exact herdsmanref1_Step.f12 Q w0_1 h0 x y w h ρ e0 e1 e9 e10, trivial⟩) (castK h (by kernel_rfl))
set_option maxRecDepth 100000 in
theorem herdsmanref1_Step.f8 (Q : Int → World → Prop) : ∀ w0_1 h0 side x y w, herdsmanref1_Step.b8 Q w0_1 h0 side x y w → ∀ ρ : Env, ρ 0 = .int .i64 w0_1 → ρ 1 = .int .i64 h0 → ρ 3 = .int .i64 side → ρ 9 = .int .i64 x → ρ 10 = .int .i64 y → Fin (cx 60) (todoOf Go.Proofs.Try.f28 8) ρ w (herdsmanref1_Step.R Q) := by
  intro w0_1 h0 side x y w h ρ e0 e1 e3 e9 e10
  refine Fin.cut (ρ' := put (put (put (put (put (ρ) (some 0) (.int .i64 w0_1)) (some 1) (.int .i64 h0)) (some 3) (.int .i64 side)) (some 9) (.int .i64 x)) (some 10) (.int .i64 y)) ?_ (by rw [put_id e0, put_id e1, put_id e3, put_id e9, put_id e10])
  refine evT_sound (ok 60) (drawD_sound (ok 60) herdsmanref1_Step.scr) 600 (L := [(10, fun ρ w => herdsmanref1_Step.d10 (fun w0_1 h0 side x y => herdsmanref1_Step.b10 Q w0_1 h0 side x y w) ρ)]) (leaf_of (fn := Go.Proofs.Try.f28) [10, 10] (by kernel_rfl) ⟨fun ρ w h => by obtain ⟨w0_1, h0, side, x, y, e0, e1, e3, e9, e10, h⟩ := herdsmanref1_Step.d10_elim (ρ := ρ) h; exact herdsmanref1_Step.f10 Q w0_1 h0 side x y w h ρ e0 e1 e3 e9 e10, trivial⟩) (castK h (by kernel_rfl))
set_option maxRecDepth 100000 in
theorem herdsmanref1_Step.f6 (Q : Int → World → Prop) : ∀ w0_1 h0 side x y w, herdsmanref1_Step.b6 Q w0_1 h0 side x y w → ∀ ρ : Env, ρ 0 = .int .i64 w0_1 → ρ 1 = .int .i64 h0 → ρ 3 = .int .i64 side → ρ 9 = .int .i64 x → ρ 10 = .int .i64 y → Fin (cx 60) (todoOf Go.Proofs.Try.f28 6) ρ w (herdsmanref1_Step.R Q) := by
  intro w0_1 h0 side x y w h ρ e0 e1 e3 e9 e10
  refine Fin.cut (ρ' := put (put (put (put (put (ρ) (some 0) (.int .i64 w0_1)) (some 1) (.int .i64 h0)) (some 3) (.int .i64 side)) (some 9) (.int .i64 x)) (some 10) (.int .i64 y)) ?_ (by rw [put_id e0, put_id e1, put_id e3, put_id e9, put_id e10])
  refine evT_sound (ok 60) (drawD_sound (ok 60) herdsmanref1_Step.scr) 600 (L := [(8, fun ρ w => herdsmanref1_Step.d8 (fun w0_1 h0 side x y => herdsmanref1_Step.b8 Q w0_1 h0 side x y w) ρ)]) (leaf_of (fn := Go.Proofs.Try.f28) [8, 8] (by kernel_rfl) ⟨fun ρ w h => by obtain ⟨w0_1, h0, side, x, y, e0, e1, e3, e9, e10, h⟩ := herdsmanref1_Step.d8_elim (ρ := ρ) h; exact herdsmanref1_Step.f8 Q w0_1 h0 side x y w h ρ e0 e1 e3 e9 e10, trivial⟩) (castK h (by kernel_rfl))
set_option maxRecDepth 100000 in
theorem herdsmanref1_Step.body (w0_1 : Int) (h0 : Int) (c : Int) (side : Int) (w : World) (Q : Int → World → Prop) (h : herdsmanref1_Step.sh w0_1 h0 c side w Q) : herdsmanref1_Step.call w0_1 h0 c side w Q := by
  refine call_fn (ok 60) (fn := Go.Proofs.Try.f28) (args := [.int .i64 w0_1, .int .i64 h0, .int .i64 c, .int .i64 side]) (K := herdsmanref1_Step.qv Q) Go.Proofs.Try.func28 (by kernel_rfl) (by kernel_rfl) (by kernel_rfl) ?_
  refine evT_sound (ok 60) (drawD_sound (ok 60) herdsmanref1_Step.scr) 600 (L := [(6, fun ρ w => herdsmanref1_Step.d6 (fun w0_1 h0 side x y => herdsmanref1_Step.b6 Q w0_1 h0 side x y w) ρ)]) (leaf_of (fn := Go.Proofs.Try.f28) [6, 6] (by kernel_rfl) ⟨fun ρ w h => by obtain ⟨w0_1, h0, side, x, y, e0, e1, e3, e9, e10, h⟩ := herdsmanref1_Step.d6_elim (ρ := ρ) h; exact herdsmanref1_Step.f6 Q w0_1 h0 side x y w h ρ e0 e1 e3 e9 e10, trivial⟩) (castK h (by kernel_rfl))
end Go.Proofs.Ytbecldlnajlnnaa.S
