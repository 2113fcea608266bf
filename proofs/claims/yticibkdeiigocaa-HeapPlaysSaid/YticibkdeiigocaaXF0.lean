/- What the bodies ask, and that a call is no more. Printed by a program of this work (sxgen.py) out of the translation. -/
import Derived.Test.YticibkdeiigocaaXT
set_option linter.unusedVariables false
set_option linter.unusedSimpArgs false
namespace Go.Proofs.Yticibkdeiigocaa.S
open Go.Sx
/-! ### 7 herdsman/heap.New -/
def heap_New.sh (w : World) (Q : Option Addr → World → Prop) : Prop :=
  Bx [.slice none 0 0] 43 w fun p2_b w0_1 =>
  Q (some p2_b) w0_1
noncomputable def heap_New.scr : Scrs := []
def heap_New.R (Q : Option Addr → World → Prop) (ρ : Env) (w : World) : Prop := evRes (cx 3) Go.Proofs.Try.f7.results.toList ρ w fun vs => heap_New.qv Q (resV vs) w
set_option maxRecDepth 100000 in
theorem heap_New.body (w : World) (Q : Option Addr → World → Prop) (h : heap_New.sh w Q) : heap_New.call w Q := by
  refine call_fn (ok 3) (fn := Go.Proofs.Try.f7) (args := []) (K := heap_New.qv Q) Go.Proofs.Try.func7 (by kernel_rfl) (by kernel_rfl) (by kernel_rfl) ?_
  refine evT_sound (ok 3) (drawD_sound (ok 3) heap_New.scr) 600 (L := []) (leaf_of (fn := Go.Proofs.Try.f7) [] (by kernel_rfl) trivial) (castK h (by kernel_rfl))
/-! ### 8 herdsman/herdsmanref1.Within -/
def herdsmanref1_Within.sh (n : Int) (lo : Int) (hi : Int) (w : World) (Q : Int → World → Prop) : Prop :=
  NZ (IntKind.wrap .i64 ((IntKind.wrap .i64 (hi - lo)) + 1)) <|
  cond (decide ((Int.tmod n (IntKind.wrap .i64 ((IntKind.wrap .i64 (hi - lo)) + 1))) < 0))
  (Q (IntKind.wrap .i64 (lo + (IntKind.wrap .i64 ((IntKind.wrap .i64 ((IntKind.wrap .i64 ((Int.tmod n (IntKind.wrap .i64 ((IntKind.wrap .i64 (hi - lo)) + 1))) + hi)) - lo)) + 1)))) w)
  (Q (IntKind.wrap .i64 (lo + (Int.tmod n (IntKind.wrap .i64 ((IntKind.wrap .i64 (hi - lo)) + 1))))) w)
noncomputable def herdsmanref1_Within.scr : Scrs := []
def herdsmanref1_Within.R (Q : Int → World → Prop) (ρ : Env) (w : World) : Prop := evRes (cx 24) Go.Proofs.Try.f8.results.toList ρ w fun vs => herdsmanref1_Within.qv Q (resV vs) w
set_option maxRecDepth 100000 in
theorem herdsmanref1_Within.body (n : Int) (lo : Int) (hi : Int) (w : World) (Q : Int → World → Prop) (h : herdsmanref1_Within.sh n lo hi w Q) : herdsmanref1_Within.call n lo hi w Q := by
  refine call_fn (ok 24) (fn := Go.Proofs.Try.f8) (args := [.int .i64 n, .int .i64 lo, .int .i64 hi]) (K := herdsmanref1_Within.qv Q) Go.Proofs.Try.func8 (by kernel_rfl) (by kernel_rfl) (by kernel_rfl) ?_
  refine evT_sound (ok 24) (drawD_sound (ok 24) herdsmanref1_Within.scr) 600 (L := []) (leaf_of (fn := Go.Proofs.Try.f8) [] (by kernel_rfl) trivial) (castK h (by kernel_rfl))
/-! ### 16 (herdsman/heap.entry).less -/
def heap_entry_less.sh (e_key : Int) (e_item : Int) (o_key : Int) (o_item : Int) (w : World) (Q : Bool → World → Prop) : Prop :=
  Bx [.int .i64 e_key, .int .i64 e_item] 45 w fun e_b w0_1 =>
  Bx [.int .i64 o_key, .int .i64 o_item] 45 w0_1 fun o_b w0_2 =>
  LdI .i64 e_b w0_2 fun x6 =>
  LdI .i64 o_b w0_2 fun x8 =>
  cond (decide (x6 < x8))
  (Q true w0_2)
  (LdI .i64 e_b w0_2 fun x12 =>
  LdI .i64 o_b w0_2 fun x14 =>
  cond (x12 == x14)
  (LdI .i64 (e_b.add 1) w0_2 fun x18 =>
  LdI .i64 (o_b.add 1) w0_2 fun x20 =>
  Q (decide (x18 < x20)) w0_2)
  (Q false w0_2))
noncomputable def heap_entry_less.scr : Scrs := []
def heap_entry_less.R (Q : Bool → World → Prop) (ρ : Env) (w : World) : Prop := evRes (cx 24) Go.Proofs.Try.f16.results.toList ρ w fun vs => heap_entry_less.qv Q (resV vs) w
set_option maxRecDepth 100000 in
theorem heap_entry_less.body (e_key : Int) (e_item : Int) (o_key : Int) (o_item : Int) (w : World) (Q : Bool → World → Prop) (h : heap_entry_less.sh e_key e_item o_key o_item w Q) : heap_entry_less.call e_key e_item o_key o_item w Q := by
  refine call_fn (ok 24) (fn := Go.Proofs.Try.f16) (args := [.agg #[.int .i64 e_key, .int .i64 e_item], .agg #[.int .i64 o_key, .int .i64 o_item]]) (K := heap_entry_less.qv Q) Go.Proofs.Try.func16 (by kernel_rfl) (by kernel_rfl) (by kernel_rfl) ?_
  refine evT_sound (ok 24) (drawD_sound (ok 24) heap_entry_less.scr) 600 (L := []) (leaf_of (fn := Go.Proofs.Try.f16) [] (by kernel_rfl) trivial) (castK h (by kernel_rfl))
/-! ### 14 (*herdsman/heap.Heap).up -/
def heap_Heap_up.s1 (Q : World → Prop) (R1 : Option Addr → Int → World → Prop) (h0 : Option Addr) (i : Int) (w : World) : Prop :=
  cond (decide (i > 0))
  (NZ 2 <|
  wA h0 fun p16 =>
  LdS p16 w.drew fun x18_a x18_n x18_c =>
  InB i x18_n <|
  wA x18_a fun p =>
  LdI .i64 ((p.add (i.toNat * 2)).add 0) w.drew fun x21_key =>
  LdI .i64 ((p.add (i.toNat * 2)).add 1) w.drew fun x21_item =>
  wA h0 fun p23 =>
  LdS p23 w.drew fun x25_a x25_n x25_c =>
  InB (IntKind.wrap .i64 (Int.tdiv (IntKind.wrap .i64 (i - 1)) 2)) x25_n <|
  wA x25_a fun p_1 =>
  LdI .i64 ((p_1.add (((IntKind.wrap .i64 (Int.tdiv (IntKind.wrap .i64 (i - 1)) 2))).toNat * 2)).add 0) w.drew fun x28_key =>
  LdI .i64 ((p_1.add (((IntKind.wrap .i64 (Int.tdiv (IntKind.wrap .i64 (i - 1)) 2))).toNat * 2)).add 1) w.drew fun x28_item =>
  heap_entry_less.call x21_key x21_item x28_key x28_item w.drew fun r29 w0_1 =>
  cond (!r29)
  (Q w0_1)
  (wA h0 fun p32 =>
  LdS p32 w0_1.drew fun x34_a x34_n x34_c =>
  wA h0 fun p37 =>
  LdS p37 w0_1.drew fun x39_a x39_n x39_c =>
  wA h0 fun p42 =>
  LdS p42 w0_1.drew fun x44_a x44_n x44_c =>
  InB (IntKind.wrap .i64 (Int.tdiv (IntKind.wrap .i64 (i - 1)) 2)) x44_n <|
  wA x44_a fun p_2 =>
  LdI .i64 ((p_2.add (((IntKind.wrap .i64 (Int.tdiv (IntKind.wrap .i64 (i - 1)) 2))).toNat * 2)).add 0) w0_1.drew fun x47_key =>
  LdI .i64 ((p_2.add (((IntKind.wrap .i64 (Int.tdiv (IntKind.wrap .i64 (i - 1)) 2))).toNat * 2)).add 1) w0_1.drew fun x47_item =>
  wA h0 fun p49 =>
  LdS p49 w0_1.drew fun x51_a x51_n x51_c =>
  InB i x51_n <|
  wA x51_a fun p_3 =>
  LdI .i64 ((p_3.add (i.toNat * 2)).add 0) w0_1.drew fun x54_key =>
  LdI .i64 ((p_3.add (i.toNat * 2)).add 1) w0_1.drew fun x54_item =>
  InB i x34_n <|
  wA x34_a fun p_4 =>
  St ((p_4.add (i.toNat * 2)).add 0) (.int .i64 x47_key) w0_1.drew fun w0_2 =>
  St ((p_4.add (i.toNat * 2)).add 1) (.int .i64 x47_item) w0_2 fun w0_3 =>
  InB (IntKind.wrap .i64 (Int.tdiv (IntKind.wrap .i64 (i - 1)) 2)) x39_n <|
  wA x39_a fun p_5 =>
  St ((p_5.add (((IntKind.wrap .i64 (Int.tdiv (IntKind.wrap .i64 (i - 1)) 2))).toNat * 2)).add 0) (.int .i64 x54_key) w0_3 fun w0_4 =>
  St ((p_5.add (((IntKind.wrap .i64 (Int.tdiv (IntKind.wrap .i64 (i - 1)) 2))).toNat * 2)).add 1) (.int .i64 x54_item) w0_4 fun w0_5 =>
  R1 h0 (IntKind.wrap .i64 (Int.tdiv (IntKind.wrap .i64 (i - 1)) 2)) w0_5))
  (Q w)
def heap_Heap_up.b1 (Q : World → Prop) : Nat → Option Addr → Int → World → Prop
  | 0, _, _, _ => False
  | k + 1, h0, i, w => heap_Heap_up.s1 Q (heap_Heap_up.b1 Q k) h0 i w
def heap_Heap_up.sh (h0 : Option Addr) (w : World) (Q : World → Prop) : Prop :=
  wA h0 fun p5 =>
  LdS p5 w fun x7_a x7_n x7_c =>
  ∃ k', heap_Heap_up.b1 Q k' h0 (IntKind.wrap .i64 ((x7_n : Int) - 1)) w
noncomputable def heap_Heap_up.scr : Scrs := [(3, .op 0 (.op 1 (.op 2 (.op 3 (.op 4 (.op 5 (.op 6 (.op 7 (.op 8 (.op 9 (.op 10 (.op 11 (.op 12 (.op 13 (.op 14 (.op 15 .done)))))))))))))))), (4, .op 0 (.op 1 (.op 2 (.op 3 (.op 4 (.op 5 (.op 6 (.op 7 (.op 8 (.op 9 (.op 10 (.op 11 (.op 12 (.op 13 (.op 14 (.op 15 (.op 16 (.op 17 (.op 18 (.op 19 (.op 20 (.op 21 (.op 22 (.op 23 (.op 24 (.op 25 (.op 26 (.op 27 .done))))))))))))))))))))))))))))]
def heap_Heap_up.R (Q : World → Prop) (ρ : Env) (w : World) : Prop := evRes (cx 58) Go.Proofs.Try.f14.results.toList ρ w fun vs => heap_Heap_up.qv Q (resV vs) w
def heap_Heap_up.d1 (K : Option Addr → Int → Prop) (ρ : Env) : Prop :=
  dP (ρ 0) fun h0 => dI .i64 (ρ 2) fun i => K h0 i
theorem heap_Heap_up.d1_elim {K : Option Addr → Int → Prop} {ρ : Env} (h0 : heap_Heap_up.d1 K ρ) : ∃ (h0 : Option Addr) (i : Int), ρ 0 = .pointer h0 ∧ ρ 2 = .int .i64 i ∧ K h0 i := by
  obtain ⟨h0, e0, h1⟩ := dP_elim h0
  obtain ⟨i, e2, h2⟩ := dI_elim h1
  exact ⟨h0, i, e0, e2, h2⟩
set_option maxRecDepth 100000 in
theorem heap_Heap_up.f1 (Q : World → Prop) : ∀ k h0 i w, heap_Heap_up.b1 Q k h0 i w → ∀ ρ : Env, ρ 0 = .pointer h0 → ρ 2 = .int .i64 i → Fin (cx 58) (todoOf Go.Proofs.Try.f14 1) ρ w (heap_Heap_up.R Q) := by
  intro k
  induction k with
  | zero => intro h0 i w h; exact h.elim
  | succ k ih =>
    intro h0 i w h ρ e0 e2
    have h : heap_Heap_up.s1 Q (heap_Heap_up.b1 Q k) h0 i w := h
    refine Fin.cut (ρ' := put (put (ρ) (some 0) (.pointer h0)) (some 2) (.int .i64 i)) ?_ (by rw [put_id e0, put_id e2])
    refine evT_sound (ok 58) (drawD_sound (ok 58) heap_Heap_up.scr) 600 (L := [(1, fun ρ w => heap_Heap_up.d1 (fun h0 i => heap_Heap_up.b1 Q k h0 i w) ρ)]) (leaf_of (fn := Go.Proofs.Try.f14) [1] (by kernel_rfl) ⟨fun ρ w h => by obtain ⟨h0, i, e0, e2, h⟩ := heap_Heap_up.d1_elim h; exact ih h0 i w h ρ e0 e2, trivial⟩) (castK h (by kernel_rfl))
set_option maxRecDepth 100000 in
theorem heap_Heap_up.body (h0 : Option Addr) (w : World) (Q : World → Prop) (h : heap_Heap_up.sh h0 w Q) : heap_Heap_up.call h0 w Q := by
  refine call_fn (ok 58) (fn := Go.Proofs.Try.f14) (args := [.pointer h0]) (K := heap_Heap_up.qv Q) Go.Proofs.Try.func14 (by kernel_rfl) (by kernel_rfl) (by kernel_rfl) ?_
  refine evT_sound (ok 58) (drawD_sound (ok 58) heap_Heap_up.scr) 600 (L := [(1, fun ρ w => heap_Heap_up.d1 (fun h0 i => ∃ k', heap_Heap_up.b1 Q k' h0 i w) ρ)]) (leaf_of (fn := Go.Proofs.Try.f14) [1] (by kernel_rfl) ⟨fun ρ w h => by obtain ⟨h0, i, e0, e2, h⟩ := heap_Heap_up.d1_elim h; obtain ⟨k', h⟩ := h; exact heap_Heap_up.f1 Q k' h0 i w h ρ e0 e2, trivial⟩) (castK h (by kernel_rfl))
/-! ### 9 (*herdsman/heap.Heap).Push -/
def heap_Heap_Push.sh (h0 : Option Addr) (key : Int) (item : Int) (w : World) (Q : World → Prop) : Prop :=
  cond h0.isNone
  (Q w)
  (wA h0 fun p10 =>
  LdS p10 w fun x12_a x12_n x12_c =>
  Bx [.int .i64 key, .int .i64 item] 45 w fun p16_s w0_1 =>
  App P #[41, 41] 41 (.slice x12_a x12_n x12_c) (.slice (some p16_s) 1 1) w0_1 fun r17_a r17_n r17_c w0_2 =>
  wA h0 fun p18 =>
  St p18 (.slice r17_a r17_n r17_c) w0_2 fun w0_3 =>
  heap_Heap_up.call h0 w0_3 fun w0_4 =>
  Q w0_4)
noncomputable def heap_Heap_Push.scr : Scrs := []
def heap_Heap_Push.R (Q : World → Prop) (ρ : Env) (w : World) : Prop := evRes (cx 22) Go.Proofs.Try.f9.results.toList ρ w fun vs => heap_Heap_Push.qv Q (resV vs) w
set_option maxRecDepth 100000 in
theorem heap_Heap_Push.body (h0 : Option Addr) (key : Int) (item : Int) (w : World) (Q : World → Prop) (h : heap_Heap_Push.sh h0 key item w Q) : heap_Heap_Push.call h0 key item w Q := by
  refine call_fn (ok 22) (fn := Go.Proofs.Try.f9) (args := [.pointer h0, .int .i64 key, .int .i64 item]) (K := heap_Heap_Push.qv Q) Go.Proofs.Try.func9 (by kernel_rfl) (by kernel_rfl) (by kernel_rfl) ?_
  refine evT_sound (ok 22) (drawD_sound (ok 22) heap_Heap_Push.scr) 600 (L := []) (leaf_of (fn := Go.Proofs.Try.f9) [] (by kernel_rfl) trivial) (castK h (by kernel_rfl))
/-! ### 12 (*herdsman/heap.Heap).Len -/
def heap_Heap_Len.sh (h0 : Option Addr) (w : World) (Q : Int → World → Prop) : Prop :=
  cond h0.isNone
  (Q 0 w)
  (wA h0 fun p6 =>
  LdS p6 w fun x8_a x8_n x8_c =>
  Q (x8_n : Int) w)
noncomputable def heap_Heap_Len.scr : Scrs := []
def heap_Heap_Len.R (Q : Int → World → Prop) (ρ : Env) (w : World) : Prop := evRes (cx 10) Go.Proofs.Try.f12.results.toList ρ w fun vs => heap_Heap_Len.qv Q (resV vs) w
set_option maxRecDepth 100000 in
theorem heap_Heap_Len.body (h0 : Option Addr) (w : World) (Q : Int → World → Prop) (h : heap_Heap_Len.sh h0 w Q) : heap_Heap_Len.call h0 w Q := by
  refine call_fn (ok 10) (fn := Go.Proofs.Try.f12) (args := [.pointer h0]) (K := heap_Heap_Len.qv Q) Go.Proofs.Try.func12 (by kernel_rfl) (by kernel_rfl) (by kernel_rfl) ?_
  refine evT_sound (ok 10) (drawD_sound (ok 10) heap_Heap_Len.scr) 600 (L := []) (leaf_of (fn := Go.Proofs.Try.f12) [] (by kernel_rfl) trivial) (castK h (by kernel_rfl))
/-! ### 10 (*herdsman/heap.Heap).Top -/
def heap_Heap_Top.sh (h0 : Option Addr) (w : World) (Q : Int → Int → Bool → World → Prop) : Prop :=
  heap_Heap_Len.call h0 w fun r6 w0_1 =>
  cond (r6 == 0)
  (Q 0 0 false w0_1)
  (wA h0 fun p9 =>
  LdS p9 w0_1.drew fun x11_a x11_n x11_c =>
  InB 0 x11_n <|
  wA x11_a fun p =>
  LdI .i64 (p.add (((0 : Int).toNat) * 2)) w0_1.drew fun x14 =>
  wA h0 fun p16 =>
  LdS p16 w0_1.drew fun x18_a x18_n x18_c =>
  InB 0 x18_n <|
  wA x18_a fun p_1 =>
  LdI .i64 ((p_1.add (((0 : Int).toNat) * 2)).add 1) w0_1.drew fun x21 =>
  w0_1.drew.cell? ((p_1.add (((0 : Int).toNat) * 2)).add 1) = some (.int .i64 x21) ∧
  w0_1.drew.cell? p16 = some (.slice x18_a x18_n x18_c) ∧
  Q x14 x21 true w0_1.drew)
noncomputable def heap_Heap_Top.scr : Scrs := [(3, .op 0 (.op 1 (.op 2 (.op 3 (.op 4 (.op 5 (.op 6 (.op 7 (.op 8 (.op 9 (.op 10 (.op 11 (.op 12 (.op 13 (.op 14 (.op 15 (.op 16 .done)))))))))))))))))]
def heap_Heap_Top.R (Q : Int → Int → Bool → World → Prop) (ρ : Env) (w : World) : Prop := evRes (cx 22) Go.Proofs.Try.f10.results.toList ρ w fun vs => heap_Heap_Top.qv Q (resV vs) w
set_option maxRecDepth 100000 in
theorem heap_Heap_Top.body (h0 : Option Addr) (w : World) (Q : Int → Int → Bool → World → Prop) (h : heap_Heap_Top.sh h0 w Q) : heap_Heap_Top.call h0 w Q := by
  refine call_fn (ok 22) (fn := Go.Proofs.Try.f10) (args := [.pointer h0]) (K := heap_Heap_Top.qv Q) Go.Proofs.Try.func10 (by kernel_rfl) (by kernel_rfl) (by kernel_rfl) ?_
  refine evT_sound (ok 22) (drawD_sound (ok 22) heap_Heap_Top.scr) 600 (L := []) (leaf_of (fn := Go.Proofs.Try.f10) [] (by kernel_rfl) trivial) (castK h (by kernel_rfl))
/-! ### 15 (*herdsman/heap.Heap).down -/
def heap_Heap_down.b7 (P1 : Option Addr → Int → World → Prop) (Q : World → Prop) (h0 : Option Addr) (i : Int) (least : Int) (w : World) : Prop :=
  cond (least == i)
  (Q w)
  (wA h0 fun p45 =>
  LdS p45 w.drew fun x47_a x47_n x47_c =>
  wA h0 fun p50 =>
  LdS p50 w.drew fun x52_a x52_n x52_c =>
  wA h0 fun p55 =>
  LdS p55 w.drew fun x57_a x57_n x57_c =>
  InB least x57_n <|
  wA x57_a fun p =>
  LdI .i64 ((p.add (least.toNat * 2)).add 0) w.drew fun x60_key =>
  LdI .i64 ((p.add (least.toNat * 2)).add 1) w.drew fun x60_item =>
  wA h0 fun p62 =>
  LdS p62 w.drew fun x64_a x64_n x64_c =>
  InB i x64_n <|
  wA x64_a fun p_1 =>
  LdI .i64 ((p_1.add (i.toNat * 2)).add 0) w.drew fun x67_key =>
  LdI .i64 ((p_1.add (i.toNat * 2)).add 1) w.drew fun x67_item =>
  InB i x47_n <|
  wA x47_a fun p_2 =>
  St ((p_2.add (i.toNat * 2)).add 0) (.int .i64 x60_key) w.drew fun w0_1 =>
  St ((p_2.add (i.toNat * 2)).add 1) (.int .i64 x60_item) w0_1 fun w0_2 =>
  InB least x52_n <|
  wA x52_a fun p_3 =>
  St ((p_3.add (least.toNat * 2)).add 0) (.int .i64 x67_key) w0_2 fun w0_3 =>
  St ((p_3.add (least.toNat * 2)).add 1) (.int .i64 x67_item) w0_3 fun w0_4 =>
  P1 h0 least w0_4)
def heap_Heap_down.s3 (P1 : Option Addr → Int → World → Prop) (Q : World → Prop) (R3 : Option Addr → Int → Int → Int → World → Prop) (h0 : Option Addr) (i : Int) (least : Int) (k0 : Int) (w : World) : Prop :=
  cond (decide (k0 ≤ (IntKind.wrap .i64 ((IntKind.wrap .i64 (2 * i)) + 2))))
  (wA h0 fun p17 =>
  LdS p17 w fun x19_a x19_n x19_c =>
  cond (decide (k0 < (x19_n : Int)))
  (wA h0 fun p26 =>
  LdS p26 w.drew fun x28_a x28_n x28_c =>
  InB k0 x28_n <|
  wA x28_a fun p =>
  LdI .i64 ((p.add (k0.toNat * 2)).add 0) w.drew fun x31_key =>
  LdI .i64 ((p.add (k0.toNat * 2)).add 1) w.drew fun x31_item =>
  wA h0 fun p33 =>
  LdS p33 w.drew fun x35_a x35_n x35_c =>
  InB least x35_n <|
  wA x35_a fun p_1 =>
  LdI .i64 ((p_1.add (least.toNat * 2)).add 0) w.drew fun x38_key =>
  LdI .i64 ((p_1.add (least.toNat * 2)).add 1) w.drew fun x38_item =>
  heap_entry_less.call x31_key x31_item x38_key x38_item w.drew fun r39 w0_1 =>
  cond r39
  (R3 h0 i k0 (IntKind.wrap .i64 (k0 + 1)) w0_1)
  (R3 h0 i least (IntKind.wrap .i64 (k0 + 1)) w0_1))
  (heap_Heap_down.b7 P1 Q h0 i least w))
  (heap_Heap_down.b7 P1 Q h0 i least w)
def heap_Heap_down.b3 (P1 : Option Addr → Int → World → Prop) (Q : World → Prop) : Nat → Option Addr → Int → Int → Int → World → Prop
  | 0, _, _, _, _, _ => False
  | k + 1, h0, i, least, k0, w => heap_Heap_down.s3 P1 Q (heap_Heap_down.b3 P1 Q k) h0 i least k0 w
def heap_Heap_down.s1 (Q : World → Prop) (R1 : Option Addr → Int → World → Prop) (h0 : Option Addr) (i : Int) (w : World) : Prop :=
  ∃ k', heap_Heap_down.b3 R1 Q k' h0 i i (IntKind.wrap .i64 ((IntKind.wrap .i64 (2 * i)) + 1)) w
def heap_Heap_down.b1 (Q : World → Prop) : Nat → Option Addr → Int → World → Prop
  | 0, _, _, _ => False
  | k + 1, h0, i, w => heap_Heap_down.s1 Q (heap_Heap_down.b1 Q k) h0 i w
def heap_Heap_down.sh (h0 : Option Addr) (w : World) (Q : World → Prop) : Prop :=
  ∃ k', heap_Heap_down.b1 Q k' h0 0 w
noncomputable def heap_Heap_down.scr : Scrs := [(5, .op 0 (.op 1 (.op 2 (.op 3 (.op 4 (.op 5 (.op 6 (.op 7 (.op 8 (.op 9 (.op 10 (.op 11 (.op 12 (.op 13 (.op 14 .done))))))))))))))), (8, .op 0 (.op 1 (.op 2 (.op 3 (.op 4 (.op 5 (.op 6 (.op 7 (.op 8 (.op 9 (.op 10 (.op 11 (.op 12 (.op 13 (.op 14 (.op 15 (.op 16 (.op 17 (.op 18 (.op 19 (.op 20 (.op 21 (.op 22 (.op 23 (.op 24 (.op 25 (.op 26 (.op 27 .done))))))))))))))))))))))))))))]
def heap_Heap_down.R (Q : World → Prop) (ρ : Env) (w : World) : Prop := evRes (cx 71) Go.Proofs.Try.f15.results.toList ρ w fun vs => heap_Heap_down.qv Q (resV vs) w
def heap_Heap_down.d1 (K : Option Addr → Int → Prop) (ρ : Env) : Prop :=
  dP (ρ 0) fun h0 => dI .i64 (ρ 2) fun i => K h0 i
theorem heap_Heap_down.d1_elim {K : Option Addr → Int → Prop} {ρ : Env} (h0 : heap_Heap_down.d1 K ρ) : ∃ (h0 : Option Addr) (i : Int), ρ 0 = .pointer h0 ∧ ρ 2 = .int .i64 i ∧ K h0 i := by
  obtain ⟨h0, e0, h1⟩ := dP_elim h0
  obtain ⟨i, e2, h2⟩ := dI_elim h1
  exact ⟨h0, i, e0, e2, h2⟩
def heap_Heap_down.d3 (K : Option Addr → Int → Int → Int → Prop) (ρ : Env) : Prop :=
  dP (ρ 0) fun h0 => dI .i64 (ρ 2) fun i => dI .i64 (ρ 3) fun least => dI .i64 (ρ 4) fun k0 => K h0 i least k0
theorem heap_Heap_down.d3_elim {K : Option Addr → Int → Int → Int → Prop} {ρ : Env} (h0 : heap_Heap_down.d3 K ρ) : ∃ (h0 : Option Addr) (i : Int) (least : Int) (k0 : Int), ρ 0 = .pointer h0 ∧ ρ 2 = .int .i64 i ∧ ρ 3 = .int .i64 least ∧ ρ 4 = .int .i64 k0 ∧ K h0 i least k0 := by
  obtain ⟨h0, e0, h1⟩ := dP_elim h0
  obtain ⟨i, e2, h2⟩ := dI_elim h1
  obtain ⟨least, e3, h3⟩ := dI_elim h2
  obtain ⟨k0, e4, h4⟩ := dI_elim h3
  exact ⟨h0, i, least, k0, e0, e2, e3, e4, h4⟩
def heap_Heap_down.d7 (K : Option Addr → Int → Int → Prop) (ρ : Env) : Prop :=
  dP (ρ 0) fun h0 => dI .i64 (ρ 2) fun i => dI .i64 (ρ 3) fun least => K h0 i least
theorem heap_Heap_down.d7_elim {K : Option Addr → Int → Int → Prop} {ρ : Env} (h0 : heap_Heap_down.d7 K ρ) : ∃ (h0 : Option Addr) (i : Int) (least : Int), ρ 0 = .pointer h0 ∧ ρ 2 = .int .i64 i ∧ ρ 3 = .int .i64 least ∧ K h0 i least := by
  obtain ⟨h0, e0, h1⟩ := dP_elim h0
  obtain ⟨i, e2, h2⟩ := dI_elim h1
  obtain ⟨least, e3, h3⟩ := dI_elim h2
  exact ⟨h0, i, least, e0, e2, e3, h3⟩
set_option maxRecDepth 100000 in
theorem heap_Heap_down.f7 (P1 : Option Addr → Int → World → Prop) (Q : World → Prop) (HP1 : ∀ h0 i w, P1 h0 i w → ∀ ρ : Env, ρ 0 = .pointer h0 → ρ 2 = .int .i64 i → Fin (cx 71) (todoOf Go.Proofs.Try.f15 1) ρ w (heap_Heap_down.R Q)) : ∀ h0 i least w, heap_Heap_down.b7 P1 Q h0 i least w → ∀ ρ : Env, ρ 0 = .pointer h0 → ρ 2 = .int .i64 i → ρ 3 = .int .i64 least → Fin (cx 71) (todoOf Go.Proofs.Try.f15 7) ρ w (heap_Heap_down.R Q) := by
  intro h0 i least w h ρ e0 e2 e3
  refine Fin.cut (ρ' := put (put (put (ρ) (some 0) (.pointer h0)) (some 2) (.int .i64 i)) (some 3) (.int .i64 least)) ?_ (by rw [put_id e0, put_id e2, put_id e3])
  refine evT_sound (ok 71) (drawD_sound (ok 71) heap_Heap_down.scr) 600 (L := [(1, fun ρ w => heap_Heap_down.d1 (fun h0 i => P1 h0 i w) ρ)]) (leaf_of (fn := Go.Proofs.Try.f15) [1] (by kernel_rfl) ⟨fun ρ w h => by obtain ⟨h0, i, e0, e2, h⟩ := heap_Heap_down.d1_elim h; exact HP1 h0 i w h ρ e0 e2, trivial⟩) (castK h (by kernel_rfl))
set_option maxRecDepth 100000 in
theorem heap_Heap_down.f3 (P1 : Option Addr → Int → World → Prop) (Q : World → Prop) (HP1 : ∀ h0 i w, P1 h0 i w → ∀ ρ : Env, ρ 0 = .pointer h0 → ρ 2 = .int .i64 i → Fin (cx 71) (todoOf Go.Proofs.Try.f15 1) ρ w (heap_Heap_down.R Q)) : ∀ k h0 i least k0 w, heap_Heap_down.b3 P1 Q k h0 i least k0 w → ∀ ρ : Env, ρ 0 = .pointer h0 → ρ 2 = .int .i64 i → ρ 3 = .int .i64 least → ρ 4 = .int .i64 k0 → Fin (cx 71) (todoOf Go.Proofs.Try.f15 3) ρ w (heap_Heap_down.R Q) := by
  intro k
  induction k with
  | zero => intro h0 i least k0 w h; exact h.elim
  | succ k ih =>
    intro h0 i least k0 w h ρ e0 e2 e3 e4
    have h : heap_Heap_down.s3 P1 Q (heap_Heap_down.b3 P1 Q k) h0 i least k0 w := h
    refine Fin.cut (ρ' := put (put (put (put (ρ) (some 0) (.pointer h0)) (some 2) (.int .i64 i)) (some 3) (.int .i64 least)) (some 4) (.int .i64 k0)) ?_ (by rw [put_id e0, put_id e2, put_id e3, put_id e4])
    refine evT_sound (ok 71) (drawD_sound (ok 71) heap_Heap_down.scr) 600 (L := [(3, fun ρ w => heap_Heap_down.d3 (fun h0 i least k0 => heap_Heap_down.b3 P1 Q k h0 i least k0 w) ρ), (7, fun ρ w => heap_Heap_down.d7 (fun h0 i least => heap_Heap_down.b7 P1 Q h0 i least w) ρ)]) (leaf_of (fn := Go.Proofs.Try.f15) [3, 3, 7] (by kernel_rfl) ⟨fun ρ w h => by obtain ⟨h0, i, least, k0, e0, e2, e3, e4, h⟩ := heap_Heap_down.d3_elim h; exact ih h0 i least k0 w h ρ e0 e2 e3 e4, fun ρ w h => by obtain ⟨h0, i, least, e0, e2, e3, h⟩ := heap_Heap_down.d7_elim h; exact heap_Heap_down.f7 P1 Q HP1 h0 i least w h ρ e0 e2 e3, trivial⟩) (castK h (by kernel_rfl))
set_option maxRecDepth 100000 in
theorem heap_Heap_down.f1 (Q : World → Prop) : ∀ k h0 i w, heap_Heap_down.b1 Q k h0 i w → ∀ ρ : Env, ρ 0 = .pointer h0 → ρ 2 = .int .i64 i → Fin (cx 71) (todoOf Go.Proofs.Try.f15 1) ρ w (heap_Heap_down.R Q) := by
  intro k
  induction k with
  | zero => intro h0 i w h; exact h.elim
  | succ k ih =>
    intro h0 i w h ρ e0 e2
    have h : heap_Heap_down.s1 Q (heap_Heap_down.b1 Q k) h0 i w := h
    refine Fin.cut (ρ' := put (put (ρ) (some 0) (.pointer h0)) (some 2) (.int .i64 i)) ?_ (by rw [put_id e0, put_id e2])
    refine evT_sound (ok 71) (drawD_sound (ok 71) heap_Heap_down.scr) 600 (L := [(3, fun ρ w => heap_Heap_down.d3 (fun h0 i least k0 => ∃ k', heap_Heap_down.b3 (heap_Heap_down.b1 Q k) Q k' h0 i least k0 w) ρ)]) (leaf_of (fn := Go.Proofs.Try.f15) [3] (by kernel_rfl) ⟨fun ρ w h => by obtain ⟨h0, i, least, k0, e0, e2, e3, e4, h⟩ := heap_Heap_down.d3_elim h; obtain ⟨k', h⟩ := h; exact heap_Heap_down.f3 (heap_Heap_down.b1 Q k) Q ih k' h0 i least k0 w h ρ e0 e2 e3 e4, trivial⟩) (castK h (by kernel_rfl))
set_option maxRecDepth 100000 in
theorem heap_Heap_down.body (h0 : Option Addr) (w : World) (Q : World → Prop) (h : heap_Heap_down.sh h0 w Q) : heap_Heap_down.call h0 w Q := by
  refine call_fn (ok 71) (fn := Go.Proofs.Try.f15) (args := [.pointer h0]) (K := heap_Heap_down.qv Q) Go.Proofs.Try.func15 (by kernel_rfl) (by kernel_rfl) (by kernel_rfl) ?_
  refine evT_sound (ok 71) (drawD_sound (ok 71) heap_Heap_down.scr) 600 (L := [(1, fun ρ w => heap_Heap_down.d1 (fun h0 i => ∃ k', heap_Heap_down.b1 Q k' h0 i w) ρ)]) (leaf_of (fn := Go.Proofs.Try.f15) [1] (by kernel_rfl) ⟨fun ρ w h => by obtain ⟨h0, i, e0, e2, h⟩ := heap_Heap_down.d1_elim h; obtain ⟨k', h⟩ := h; exact heap_Heap_down.f1 Q k' h0 i w h ρ e0 e2, trivial⟩) (castK h (by kernel_rfl))
/-! ### 11 (*herdsman/heap.Heap).Pop -/
def heap_Heap_Pop.b7 (Q : Int → Int → Bool → World → Prop) (key : Int) (item : Int) (ok0 : Bool) (w : World) : Prop :=
  Q key item ok0 w
def heap_Heap_Pop.sh (h0 : Option Addr) (w : World) (Q : Int → Int → Bool → World → Prop) : Prop :=
  heap_Heap_Top.call h0 w fun r8_key r8_item r8_ok w0_1 =>
  cond r8_ok
  (wA h0 fun p14 =>
  LdS p14 w0_1 fun x16_a x16_n x16_c =>
  wA h0 fun p20 =>
  LdS p20 w0_1.drew fun x22_a x22_n x22_c =>
  wA h0 fun p24 =>
  LdS p24 w0_1.drew fun x26_a x26_n x26_c =>
  InB (IntKind.wrap .i64 ((x16_n : Int) - 1)) x26_n <|
  wA x26_a fun p =>
  LdI .i64 ((p.add (((IntKind.wrap .i64 ((x16_n : Int) - 1))).toNat * 2)).add 0) w0_1.drew fun x29_key =>
  LdI .i64 ((p.add (((IntKind.wrap .i64 ((x16_n : Int) - 1))).toNat * 2)).add 1) w0_1.drew fun x29_item =>
  InB 0 x22_n <|
  wA x22_a fun p_1 =>
  St ((p_1.add (((0 : Int).toNat) * 2)).add 0) (.int .i64 x29_key) w0_1.drew fun w0_2 =>
  St ((p_1.add (((0 : Int).toNat) * 2)).add 1) (.int .i64 x29_item) w0_2 fun w0_3 =>
  wA h0 fun p33 =>
  LdS p33 w0_3 fun x35_a x35_n x35_c =>
  SlK x35_a x35_n x35_c 2 none (some (IntKind.wrap .i64 ((x16_n : Int) - 1))) fun s37_a s37_n s37_c =>
  wA h0 fun p38 =>
  St p38 (.slice s37_a s37_n s37_c) w0_3 fun w0_4 =>
  heap_Heap_down.call h0 w0_4 fun w0_5 =>
  heap_Heap_Pop.b7 Q r8_key r8_item r8_ok w0_5)
  (heap_Heap_Pop.b7 Q r8_key r8_item r8_ok w0_1)
noncomputable def heap_Heap_Pop.scr : Scrs := [(4, .op 0 (.op 1 (.op 2 (.op 3 (.op 4 (.op 5 (.op 6 (.op 7 (.op 8 (.op 9 (.op 10 (.op 11 (.op 12 .done)))))))))))))]
def heap_Heap_Pop.R (Q : Int → Int → Bool → World → Prop) (ρ : Env) (w : World) : Prop := evRes (cx 45) Go.Proofs.Try.f11.results.toList ρ w fun vs => heap_Heap_Pop.qv Q (resV vs) w
def heap_Heap_Pop.d7 (K : Int → Int → Bool → Prop) (ρ : Env) : Prop :=
  dI .i64 (ρ 2) fun key => dI .i64 (ρ 3) fun item => dB (ρ 4) fun ok0 => K key item ok0
theorem heap_Heap_Pop.d7_elim {K : Int → Int → Bool → Prop} {ρ : Env} (h0 : heap_Heap_Pop.d7 K ρ) : ∃ (key : Int) (item : Int) (ok0 : Bool), ρ 2 = .int .i64 key ∧ ρ 3 = .int .i64 item ∧ ρ 4 = .bool ok0 ∧ K key item ok0 := by
  obtain ⟨key, e2, h1⟩ := dI_elim h0
  obtain ⟨item, e3, h2⟩ := dI_elim h1
  obtain ⟨ok0, e4, h3⟩ := dB_elim h2
  exact ⟨key, item, ok0, e2, e3, e4, h3⟩
set_option maxRecDepth 100000 in
theorem heap_Heap_Pop.f7 (Q : Int → Int → Bool → World → Prop) : ∀ key item ok0 w, heap_Heap_Pop.b7 Q key item ok0 w → ∀ ρ : Env, ρ 2 = .int .i64 key → ρ 3 = .int .i64 item → ρ 4 = .bool ok0 → Fin (cx 45) (todoOf Go.Proofs.Try.f11 7) ρ w (heap_Heap_Pop.R Q) := by
  intro key item ok0 w h ρ e2 e3 e4
  refine Fin.cut (ρ' := put (put (put (ρ) (some 2) (.int .i64 key)) (some 3) (.int .i64 item)) (some 4) (.bool ok0)) ?_ (by rw [put_id e2, put_id e3, put_id e4])
  refine evT_sound (ok 45) (drawD_sound (ok 45) heap_Heap_Pop.scr) 600 (L := []) (leaf_of (fn := Go.Proofs.Try.f11) [] (by kernel_rfl) trivial) (castK h (by kernel_rfl))
set_option maxRecDepth 100000 in
theorem heap_Heap_Pop.body (h0 : Option Addr) (w : World) (Q : Int → Int → Bool → World → Prop) (h : heap_Heap_Pop.sh h0 w Q) : heap_Heap_Pop.call h0 w Q := by
  refine call_fn (ok 45) (fn := Go.Proofs.Try.f11) (args := [.pointer h0]) (K := heap_Heap_Pop.qv Q) Go.Proofs.Try.func11 (by kernel_rfl) (by kernel_rfl) (by kernel_rfl) ?_
  refine evT_sound (ok 45) (drawD_sound (ok 45) heap_Heap_Pop.scr) 600 (L := [(7, fun ρ w => heap_Heap_Pop.d7 (fun key item ok0 => heap_Heap_Pop.b7 Q key item ok0 w) ρ)]) (leaf_of (fn := Go.Proofs.Try.f11) [7, 7] (by kernel_rfl) ⟨fun ρ w h => by obtain ⟨key, item, ok0, e2, e3, e4, h⟩ := heap_Heap_Pop.d7_elim h; exact heap_Heap_Pop.f7 Q key item ok0 w h ρ e2 e3 e4, trivial⟩) (castK h (by kernel_rfl))
/-! ### 13 herdsman/herdsmanlaw13.told -/
def herdsmanlaw13_told.sh (w : World) (Q : Bool → World → Prop) : Prop :=
  heap_New.call w fun r5 w0_1 =>
  cond r5.isNone
  (Q false w0_1)
  (heap_Heap_Push.call r5 3 1 w0_1 fun w0_2 =>
  heap_Heap_Push.call r5 2 9 w0_2 fun w0_3 =>
  heap_Heap_Push.call r5 2 4 w0_3 fun w0_4 =>
  heap_Heap_Pop.call r5 w0_4 fun r16_key r16_item r16_ok w0_5 =>
  cond (r16_key == 2)
  (cond (r16_item == 4)
  (cond r16_ok
  (heap_Heap_Len.call r5 w0_5 fun r31 w0_6 =>
  Q (r31 == 2) w0_6)
  (Q false w0_5))
  (Q false w0_5))
  (Q false w0_5))
noncomputable def herdsmanlaw13_told.scr : Scrs := []
def herdsmanlaw13_told.R (Q : Bool → World → Prop) (ρ : Env) (w : World) : Prop := evRes (cx 34) Go.Proofs.Try.f13.results.toList ρ w fun vs => herdsmanlaw13_told.qv Q (resV vs) w
set_option maxRecDepth 100000 in
theorem herdsmanlaw13_told.body (w : World) (Q : Bool → World → Prop) (h : herdsmanlaw13_told.sh w Q) : herdsmanlaw13_told.call w Q := by
  refine call_fn (ok 34) (fn := Go.Proofs.Try.f13) (args := []) (K := herdsmanlaw13_told.qv Q) Go.Proofs.Try.func13 (by kernel_rfl) (by kernel_rfl) (by kernel_rfl) ?_
  refine evT_sound (ok 34) (drawD_sound (ok 34) herdsmanlaw13_told.scr) 600 (L := []) (leaf_of (fn := Go.Proofs.Try.f13) [] (by kernel_rfl) trivial) (castK h (by kernel_rfl))
/-! ### 3 herdsman/herdsmanlaw13.HeapPlays -/
def herdsmanlaw13_HeapPlays.b25 (P6 : Option Addr → Nat → Nat → Bool → Option Addr → Option Addr → Nat → Nat → Int → World → Prop) (Q : Bool → World → Prop) (l_a : Option Addr) (l_n : Nat) (l_c : Nat) (few : Bool) (h0 : Option Addr) (w_a : Option Addr) (w_n : Nat) (w_c : Nat) (i : Int) (w : World) : Prop :=
  heap_Heap_Len.call h0 w fun r161 w0_1 =>
  cond (r161 != (w_n : Int))
  (Q false w0_1)
  (P6 l_a l_n l_c few h0 w_a w_n w_c (IntKind.wrap .i64 (i + 1)) w0_1)
def herdsmanlaw13_HeapPlays.b17 (P6 : Option Addr → Nat → Nat → Bool → Option Addr → Option Addr → Nat → Nat → Int → World → Prop) (Q : Bool → World → Prop) (l_a : Option Addr) (l_n : Nat) (l_c : Nat) (few : Bool) (h0 : Option Addr) (w_a : Option Addr) (w_n : Nat) (w_c : Nat) (i : Int) (x : Addr) (at0 : Int) (w : World) : Prop :=
  SlK w_a w_n w_c 2 none (some at0) fun s90_a s90_n s90_c =>
  LdI .i64 (x.add 1) w.drew fun x93 =>
  LdI .i64 (x.add 2) w.drew fun x95 =>
  SlK w_a w_n w_c 2 (some at0) none fun s101_a s101_n s101_c =>
  (Bx [] 30 w.drew fun p87_s w0_1 =>
  w0_1.cell? (x.add 2) = some (.int .i64 x95) ∧
  w0_1.cell? (x.add 1) = some (.int .i64 x93) ∧
  (App P #[25, 25] 25 (.slice (some p87_s) 0 0) (.slice s90_a s90_n s90_c) w0_1 fun r91_a r91_n r91_c w0_2 =>
  w0_2.cell? (x.add 2) = some (.int .i64 x95) ∧
  w0_2.cell? (x.add 1) = some (.int .i64 x93) ∧
  Bx [.int .i64 x93, .int .i64 x95] 30 w0_2 fun p97_s w0_3 =>
  App P #[25, 25] 25 (.slice r91_a r91_n r91_c) (.slice (some p97_s) 1 1) w0_3 fun r98_a r98_n r98_c w0_4 =>
  App P #[25, 25] 25 (.slice r98_a r98_n r98_c) (.slice s101_a s101_n s101_c) w0_4 fun r102_a r102_n r102_c w0_5 =>
  herdsmanlaw13_HeapPlays.b25 P6 Q l_a l_n l_c few h0 r102_a r102_n r102_c i w0_5) ∧
  (Bx [.int .i64 x93, .int .i64 x95] 30 w0_1 fun p97_s_1 w0_6 =>
  App P #[25, 25] 25 (.slice (some p87_s) 0 0) (.slice s90_a s90_n s90_c) w0_6 fun r91_a_1 r91_n_1 r91_c_1 w0_7 =>
  w0_7.cell? (x.add 2) = some (.int .i64 x95) ∧
  w0_7.cell? (x.add 1) = some (.int .i64 x93) ∧
  App P #[25, 25] 25 (.slice r91_a_1 r91_n_1 r91_c_1) (.slice (some p97_s_1) 1 1) w0_7 fun r98_a_1 r98_n_1 r98_c_1 w0_8 =>
  App P #[25, 25] 25 (.slice r98_a_1 r98_n_1 r98_c_1) (.slice s101_a s101_n s101_c) w0_8 fun r102_a_1 r102_n_1 r102_c_1 w0_9 =>
  herdsmanlaw13_HeapPlays.b25 P6 Q l_a l_n l_c few h0 r102_a_1 r102_n_1 r102_c_1 i w0_9)) ∧
  (Bx [.int .i64 x93, .int .i64 x95] 30 w.drew fun p97_s_2 w0_10 =>
  Bx [] 30 w0_10 fun p87_s_1 w0_11 =>
  w0_11.cell? (x.add 2) = some (.int .i64 x95) ∧
  w0_11.cell? (x.add 1) = some (.int .i64 x93) ∧
  App P #[25, 25] 25 (.slice (some p87_s_1) 0 0) (.slice s90_a s90_n s90_c) w0_11 fun r91_a_2 r91_n_2 r91_c_2 w0_12 =>
  w0_12.cell? (x.add 2) = some (.int .i64 x95) ∧
  w0_12.cell? (x.add 1) = some (.int .i64 x93) ∧
  App P #[25, 25] 25 (.slice r91_a_2 r91_n_2 r91_c_2) (.slice (some p97_s_2) 1 1) w0_12 fun r98_a_2 r98_n_2 r98_c_2 w0_13 =>
  App P #[25, 25] 25 (.slice r98_a_2 r98_n_2 r98_c_2) (.slice s101_a s101_n s101_c) w0_13 fun r102_a_2 r102_n_2 r102_c_2 w0_14 =>
  herdsmanlaw13_HeapPlays.b25 P6 Q l_a l_n l_c few h0 r102_a_2 r102_n_2 r102_c_2 i w0_14)
def herdsmanlaw13_HeapPlays.s15 (P6 : Option Addr → Nat → Nat → Bool → Option Addr → Option Addr → Nat → Nat → Int → World → Prop) (Q : Bool → World → Prop) (R15 : Option Addr → Nat → Nat → Bool → Option Addr → Option Addr → Nat → Nat → Int → Addr → Int → World → Prop) (l_a : Option Addr) (l_n : Nat) (l_c : Nat) (few : Bool) (h0 : Option Addr) (w_a : Option Addr) (w_n : Nat) (w_c : Nat) (i : Int) (x : Addr) (at0 : Int) (w : World) : Prop :=
  cond (decide (at0 < (w_n : Int)))
  (InB at0 w_n <|
  wA w_a fun p =>
  InB 0 2 <|
  LdI .i64 ((p.add (at0.toNat * 2)).add (((0 : Int).toNat) * 1)) w.drew fun x60 =>
  LdI .i64 (x.add 1) w.drew fun x62 =>
  cond (decide (x60 < x62))
  (R15 l_a l_n l_c few h0 w_a w_n w_c i x (IntKind.wrap .i64 (at0 + 1)) w.drew)
  (InB at0 w_n <|
  wA w_a fun p_1 =>
  InB 0 2 <|
  LdI .i64 ((p_1.add (at0.toNat * 2)).add (((0 : Int).toNat) * 1)) w.drew fun x69 =>
  LdI .i64 (x.add 1) w.drew fun x71 =>
  cond (x69 == x71)
  (InB at0 w_n <|
  wA w_a fun p_2 =>
  InB 1 2 <|
  LdI .i64 ((p_2.add (at0.toNat * 2)).add (((1 : Int).toNat) * 1)) w.drew fun x78 =>
  LdI .i64 (x.add 2) w.drew fun x80 =>
  cond (decide (x78 < x80))
  (R15 l_a l_n l_c few h0 w_a w_n w_c i x (IntKind.wrap .i64 (at0 + 1)) w.drew)
  (herdsmanlaw13_HeapPlays.b17 P6 Q l_a l_n l_c few h0 w_a w_n w_c i x at0 w.drew))
  (herdsmanlaw13_HeapPlays.b17 P6 Q l_a l_n l_c few h0 w_a w_n w_c i x at0 w.drew)))
  (herdsmanlaw13_HeapPlays.b17 P6 Q l_a l_n l_c few h0 w_a w_n w_c i x at0 w.drew)
def herdsmanlaw13_HeapPlays.b15 (P6 : Option Addr → Nat → Nat → Bool → Option Addr → Option Addr → Nat → Nat → Int → World → Prop) (Q : Bool → World → Prop) : Nat → Option Addr → Nat → Nat → Bool → Option Addr → Option Addr → Nat → Nat → Int → Addr → Int → World → Prop
  | 0, _, _, _, _, _, _, _, _, _, _, _, _ => False
  | k + 1, l_a, l_n, l_c, few, h0, w_a, w_n, w_c, i, x, at0, w => herdsmanlaw13_HeapPlays.s15 P6 Q (herdsmanlaw13_HeapPlays.b15 P6 Q k) l_a l_n l_c few h0 w_a w_n w_c i x at0 w
def herdsmanlaw13_HeapPlays.b23 (P6 : Option Addr → Nat → Nat → Bool → Option Addr → Option Addr → Nat → Nat → Int → World → Prop) (Q : Bool → World → Prop) (l_a : Option Addr) (l_n : Nat) (l_c : Nat) (few : Bool) (h0 : Option Addr) (w_a : Option Addr) (w_n : Nat) (w_c : Nat) (i : Int) (kind : Int) (ok0 : Bool) (w : World) : Prop :=
  cond (kind == 2)
  (cond ok0
  (SlK w_a w_n w_c 2 (some 1) none fun s159_a s159_n s159_c =>
  herdsmanlaw13_HeapPlays.b25 P6 Q l_a l_n l_c few h0 s159_a s159_n s159_c i w)
  (herdsmanlaw13_HeapPlays.b25 P6 Q l_a l_n l_c few h0 w_a w_n w_c i w))
  (herdsmanlaw13_HeapPlays.b25 P6 Q l_a l_n l_c few h0 w_a w_n w_c i w)
def herdsmanlaw13_HeapPlays.b21 (P6 : Option Addr → Nat → Nat → Bool → Option Addr → Option Addr → Nat → Nat → Int → World → Prop) (Q : Bool → World → Prop) (l_a : Option Addr) (l_n : Nat) (l_c : Nat) (few : Bool) (h0 : Option Addr) (w_a : Option Addr) (w_n : Nat) (w_c : Nat) (i : Int) (kind : Int) (k0 : Int) (y : Int) (ok0 : Bool) (w : World) : Prop :=
  cond (!(ok0 == (decide ((w_n : Int) > 0))))
  (Q false w)
  (cond ok0
  (InB 0 w_n <|
  wA w_a fun p =>
  InB 0 2 <|
  LdI .i64 ((p.add (((0 : Int).toNat) * 2)).add (((0 : Int).toNat) * 1)) w fun x129 =>
  cond (k0 != x129)
  (Q false w)
  (InB 0 w_n <|
  wA w_a fun p_1 =>
  InB 1 2 <|
  LdI .i64 ((p_1.add (((0 : Int).toNat) * 2)).add (((1 : Int).toNat) * 1)) w fun x136 =>
  cond (y != x136)
  (Q false w)
  (cond (!ok0)
  (cond (k0 != 0)
  (Q false w)
  (cond (y != 0)
  (Q false w)
  (herdsmanlaw13_HeapPlays.b23 P6 Q l_a l_n l_c few h0 w_a w_n w_c i kind ok0 w)))
  (herdsmanlaw13_HeapPlays.b23 P6 Q l_a l_n l_c few h0 w_a w_n w_c i kind ok0 w))))
  (cond (!ok0)
  (cond (k0 != 0)
  (Q false w)
  (cond (y != 0)
  (Q false w)
  (herdsmanlaw13_HeapPlays.b23 P6 Q l_a l_n l_c few h0 w_a w_n w_c i kind ok0 w)))
  (herdsmanlaw13_HeapPlays.b23 P6 Q l_a l_n l_c few h0 w_a w_n w_c i kind ok0 w)))
def herdsmanlaw13_HeapPlays.b11 (P6 : Option Addr → Nat → Nat → Bool → Option Addr → Option Addr → Nat → Nat → Int → World → Prop) (Q : Bool → World → Prop) (l_a : Option Addr) (l_n : Nat) (l_c : Nat) (few : Bool) (h0 : Option Addr) (w_a : Option Addr) (w_n : Nat) (w_c : Nat) (i : Int) (x : Addr) (w : World) : Prop :=
  LdI .i64 x w fun x41 =>
  herdsmanref1_Within.call x41 0 3 w fun r42 w0_1 =>
  cond (decide (r42 < 2))
  (LdI .i64 (x.add 1) w0_1 fun x47 =>
  LdI .i64 (x.add 2) w0_1 fun x49 =>
  heap_Heap_Push.call h0 x47 x49 w0_1 fun w0_2 =>
  ∃ k', herdsmanlaw13_HeapPlays.b15 P6 Q k' l_a l_n l_c few h0 w_a w_n w_c i x 0 w0_2)
  (heap_Heap_Top.call h0 w0_1 fun r105_key r105_item r105_ok w0_3 =>
  cond (r42 == 2)
  (heap_Heap_Pop.call h0 w0_3 fun r113_key r113_item r113_ok w0_4 =>
  herdsmanlaw13_HeapPlays.b21 P6 Q l_a l_n l_c few h0 w_a w_n w_c i r42 r113_key r113_item r113_ok w0_4)
  (herdsmanlaw13_HeapPlays.b21 P6 Q l_a l_n l_c few h0 w_a w_n w_c i r42 r105_key r105_item r105_ok w0_3))
def herdsmanlaw13_HeapPlays.s6 (Q : Bool → World → Prop) (R6 : Option Addr → Nat → Nat → Bool → Option Addr → Option Addr → Nat → Nat → Int → World → Prop) (l_a : Option Addr) (l_n : Nat) (l_c : Nat) (few : Bool) (h0 : Option Addr) (w_a : Option Addr) (w_n : Nat) (w_c : Nat) (i : Int) (w : World) : Prop :=
  cond (decide (i < (l_n : Int)))
  (cond (decide (i < 120))
  (InB i l_n <|
  wA l_a fun p =>
  LdI .i64 ((p.add (i.toNat * 3)).add 0) w fun x30_Kind =>
  LdI .i64 ((p.add (i.toNat * 3)).add 1) w fun x30_Key =>
  LdI .i64 ((p.add (i.toNat * 3)).add 2) w fun x30_Item =>
  Al T 27 w fun x w0_1 =>
  St (x.add 0) (.int .i64 x30_Kind) w0_1 fun w0_2 =>
  St (x.add 1) (.int .i64 x30_Key) w0_2 fun w0_3 =>
  St (x.add 2) (.int .i64 x30_Item) w0_3 fun w0_4 =>
  cond few
  (LdI .i64 (x.add 1) w0_4.drew fun x33 =>
  LdI .i64 (x.add 2) w0_4.drew fun x36 =>
  herdsmanref1_Within.call x33 (-3) 3 w0_4.drew fun r34 w0_5 =>
  w0_5.cell? (x.add 2) = some (.int .i64 x36) ∧
  herdsmanref1_Within.call x36 0 4 w0_5 fun r37 w0_6 =>
  St (x.add 1) (.int .i64 r34) w0_6 fun w0_7 =>
  St (x.add 2) (.int .i64 r37) w0_7 fun w0_8 =>
  herdsmanlaw13_HeapPlays.b11 R6 Q l_a l_n l_c few h0 w_a w_n w_c i x w0_8)
  (herdsmanlaw13_HeapPlays.b11 R6 Q l_a l_n l_c few h0 w_a w_n w_c i x w0_4))
  (herdsmanlaw13_told.call w fun r165 w0_9 =>
  Q r165 w0_9))
  (herdsmanlaw13_told.call w fun r165_1 w0_10 =>
  Q r165_1 w0_10)
def herdsmanlaw13_HeapPlays.b6 (Q : Bool → World → Prop) : Nat → Option Addr → Nat → Nat → Bool → Option Addr → Option Addr → Nat → Nat → Int → World → Prop
  | 0, _, _, _, _, _, _, _, _, _, _ => False
  | k + 1, l_a, l_n, l_c, few, h0, w_a, w_n, w_c, i, w => herdsmanlaw13_HeapPlays.s6 Q (herdsmanlaw13_HeapPlays.b6 Q k) l_a l_n l_c few h0 w_a w_n w_c i w
def herdsmanlaw13_HeapPlays.sh (l_a : Option Addr) (l_n : Nat) (l_c : Nat) (few : Bool) (w : World) (Q : Bool → World → Prop) : Prop :=
  heap_New.call w fun r14 w0_1 =>
  cond r14.isNone
  (Q false w0_1)
  (∃ k', herdsmanlaw13_HeapPlays.b6 Q k' l_a l_n l_c few r14 none 0 0 0 w0_1)
noncomputable def herdsmanlaw13_HeapPlays.scr : Scrs := [(10, .op 0 (.op 1 (.op 3 (.op 4 (.op 2 (.op 6 (.op 5 (.op 7 (.op 8 (.op 9 .done)))))))))), (15, .op 0 (.op 1 (.op 2 (.op 3 (.op 4 (.op 5 (.op 6 (.op 7 (.op 8 (.op 9 (.op 10 (.op 11 (.op 12 (.op 13 (.op 14 (.op 15 (.op 16 (.op 17 (.op 18 (.op 19 (.op 20 (.op 21 (.op 22 (.op 23 (.op 24 (.op 25 (.op 26 (.op 27 (.op 28 (.op 29 (.op 30 (.op 31 (.op 32 (.op 33 .done)))))))))))))))))))))))))))))))))), (17, .op 1 (.op 2 (.op 3 (.op 5 (.op 6 (.op 7 (.op 8 (.op 9 (.op 12 (.op 13 (.op 14 (.br (.op 0 (.br (.op 4 (.op 10 (.op 11 (.op 15 (.op 16 .done))))) (.op 10 (.op 4 (.op 11 (.op 15 (.op 16 .done))))))) (.op 10 (.op 0 (.op 4 (.op 11 (.op 15 (.op 16 .done))))))))))))))))))]
def herdsmanlaw13_HeapPlays.R (Q : Bool → World → Prop) (ρ : Env) (w : World) : Prop := evRes (cx 166) Go.Proofs.Try.f3.results.toList ρ w fun vs => herdsmanlaw13_HeapPlays.qv Q (resV vs) w
def herdsmanlaw13_HeapPlays.d6 (K : Option Addr → Nat → Nat → Bool → Option Addr → Option Addr → Nat → Nat → Int → Prop) (ρ : Env) : Prop :=
  dS (ρ 0) fun l_a l_n l_c => dB (ρ 1) fun few => dP (ρ 5) fun h0 => dS (ρ 6) fun w_a w_n w_c => dI .i64 (ρ 7) fun i => K l_a l_n l_c few h0 w_a w_n w_c i
theorem herdsmanlaw13_HeapPlays.d6_elim {K : Option Addr → Nat → Nat → Bool → Option Addr → Option Addr → Nat → Nat → Int → Prop} {ρ : Env} (h0 : herdsmanlaw13_HeapPlays.d6 K ρ) : ∃ (l_a : Option Addr) (l_n : Nat) (l_c : Nat) (few : Bool) (h0 : Option Addr) (w_a : Option Addr) (w_n : Nat) (w_c : Nat) (i : Int), ρ 0 = .slice l_a l_n l_c ∧ ρ 1 = .bool few ∧ ρ 5 = .pointer h0 ∧ ρ 6 = .slice w_a w_n w_c ∧ ρ 7 = .int .i64 i ∧ K l_a l_n l_c few h0 w_a w_n w_c i := by
  obtain ⟨l_a, l_n, l_c, e0, h1⟩ := dS_elim h0
  obtain ⟨few, e1, h2⟩ := dB_elim h1
  obtain ⟨h0, e5, h3⟩ := dP_elim h2
  obtain ⟨w_a, w_n, w_c, e6, h4⟩ := dS_elim h3
  obtain ⟨i, e7, h5⟩ := dI_elim h4
  exact ⟨l_a, l_n, l_c, few, h0, w_a, w_n, w_c, i, e0, e1, e5, e6, e7, h5⟩
def herdsmanlaw13_HeapPlays.d11 (K : Option Addr → Nat → Nat → Bool → Option Addr → Option Addr → Nat → Nat → Int → Addr → Prop) (ρ : Env) : Prop :=
  dS (ρ 0) fun l_a l_n l_c => dB (ρ 1) fun few => dP (ρ 5) fun h0 => dS (ρ 6) fun w_a w_n w_c => dI .i64 (ρ 7) fun i => dP (ρ 8) fun x_p => wA x_p fun x => K l_a l_n l_c few h0 w_a w_n w_c i x
theorem herdsmanlaw13_HeapPlays.d11_elim {K : Option Addr → Nat → Nat → Bool → Option Addr → Option Addr → Nat → Nat → Int → Addr → Prop} {ρ : Env} (h0 : herdsmanlaw13_HeapPlays.d11 K ρ) : ∃ (l_a : Option Addr) (l_n : Nat) (l_c : Nat) (few : Bool) (h0 : Option Addr) (w_a : Option Addr) (w_n : Nat) (w_c : Nat) (i : Int) (x : Addr), ρ 0 = .slice l_a l_n l_c ∧ ρ 1 = .bool few ∧ ρ 5 = .pointer h0 ∧ ρ 6 = .slice w_a w_n w_c ∧ ρ 7 = .int .i64 i ∧ ρ 8 = .pointer (some x) ∧ K l_a l_n l_c few h0 w_a w_n w_c i x := by
  obtain ⟨l_a, l_n, l_c, e0, h1⟩ := dS_elim h0
  obtain ⟨few, e1, h2⟩ := dB_elim h1
  obtain ⟨h0, e5, h3⟩ := dP_elim h2
  obtain ⟨w_a, w_n, w_c, e6, h4⟩ := dS_elim h3
  obtain ⟨i, e7, h5⟩ := dI_elim h4
  obtain ⟨x_p, e8, h6⟩ := dP_elim h5
  obtain ⟨x, rfl, h7⟩ := wA_elim h6
  exact ⟨l_a, l_n, l_c, few, h0, w_a, w_n, w_c, i, x, e0, e1, e5, e6, e7, e8, h7⟩
def herdsmanlaw13_HeapPlays.d15 (K : Option Addr → Nat → Nat → Bool → Option Addr → Option Addr → Nat → Nat → Int → Addr → Int → Prop) (ρ : Env) : Prop :=
  dS (ρ 0) fun l_a l_n l_c => dB (ρ 1) fun few => dP (ρ 5) fun h0 => dS (ρ 6) fun w_a w_n w_c => dI .i64 (ρ 7) fun i => dP (ρ 8) fun x_p => wA x_p fun x => dI .i64 (ρ 10) fun at0 => K l_a l_n l_c few h0 w_a w_n w_c i x at0
theorem herdsmanlaw13_HeapPlays.d15_elim {K : Option Addr → Nat → Nat → Bool → Option Addr → Option Addr → Nat → Nat → Int → Addr → Int → Prop} {ρ : Env} (h0 : herdsmanlaw13_HeapPlays.d15 K ρ) : ∃ (l_a : Option Addr) (l_n : Nat) (l_c : Nat) (few : Bool) (h0 : Option Addr) (w_a : Option Addr) (w_n : Nat) (w_c : Nat) (i : Int) (x : Addr) (at0 : Int), ρ 0 = .slice l_a l_n l_c ∧ ρ 1 = .bool few ∧ ρ 5 = .pointer h0 ∧ ρ 6 = .slice w_a w_n w_c ∧ ρ 7 = .int .i64 i ∧ ρ 8 = .pointer (some x) ∧ ρ 10 = .int .i64 at0 ∧ K l_a l_n l_c few h0 w_a w_n w_c i x at0 := by
  obtain ⟨l_a, l_n, l_c, e0, h1⟩ := dS_elim h0
  obtain ⟨few, e1, h2⟩ := dB_elim h1
  obtain ⟨h0, e5, h3⟩ := dP_elim h2
  obtain ⟨w_a, w_n, w_c, e6, h4⟩ := dS_elim h3
  obtain ⟨i, e7, h5⟩ := dI_elim h4
  obtain ⟨x_p, e8, h6⟩ := dP_elim h5
  obtain ⟨x, rfl, h7⟩ := wA_elim h6
  obtain ⟨at0, e10, h8⟩ := dI_elim h7
  exact ⟨l_a, l_n, l_c, few, h0, w_a, w_n, w_c, i, x, at0, e0, e1, e5, e6, e7, e8, e10, h8⟩
def herdsmanlaw13_HeapPlays.d17 (K : Option Addr → Nat → Nat → Bool → Option Addr → Option Addr → Nat → Nat → Int → Addr → Int → Prop) (ρ : Env) : Prop :=
  dS (ρ 0) fun l_a l_n l_c => dB (ρ 1) fun few => dP (ρ 5) fun h0 => dS (ρ 6) fun w_a w_n w_c => dI .i64 (ρ 7) fun i => dP (ρ 8) fun x_p => wA x_p fun x => dI .i64 (ρ 10) fun at0 => K l_a l_n l_c few h0 w_a w_n w_c i x at0
theorem herdsmanlaw13_HeapPlays.d17_elim {K : Option Addr → Nat → Nat → Bool → Option Addr → Option Addr → Nat → Nat → Int → Addr → Int → Prop} {ρ : Env} (h0 : herdsmanlaw13_HeapPlays.d17 K ρ) : ∃ (l_a : Option Addr) (l_n : Nat) (l_c : Nat) (few : Bool) (h0 : Option Addr) (w_a : Option Addr) (w_n : Nat) (w_c : Nat) (i : Int) (x : Addr) (at0 : Int), ρ 0 = .slice l_a l_n l_c ∧ ρ 1 = .bool few ∧ ρ 5 = .pointer h0 ∧ ρ 6 = .slice w_a w_n w_c ∧ ρ 7 = .int .i64 i ∧ ρ 8 = .pointer (some x) ∧ ρ 10 = .int .i64 at0 ∧ K l_a l_n l_c few h0 w_a w_n w_c i x at0 := by
  obtain ⟨l_a, l_n, l_c, e0, h1⟩ := dS_elim h0
  obtain ⟨few, e1, h2⟩ := dB_elim h1
  obtain ⟨h0, e5, h3⟩ := dP_elim h2
  obtain ⟨w_a, w_n, w_c, e6, h4⟩ := dS_elim h3
  obtain ⟨i, e7, h5⟩ := dI_elim h4
  obtain ⟨x_p, e8, h6⟩ := dP_elim h5
  obtain ⟨x, rfl, h7⟩ := wA_elim h6
  obtain ⟨at0, e10, h8⟩ := dI_elim h7
  exact ⟨l_a, l_n, l_c, few, h0, w_a, w_n, w_c, i, x, at0, e0, e1, e5, e6, e7, e8, e10, h8⟩
def herdsmanlaw13_HeapPlays.d21 (K : Option Addr → Nat → Nat → Bool → Option Addr → Option Addr → Nat → Nat → Int → Int → Int → Int → Bool → Prop) (ρ : Env) : Prop :=
  dS (ρ 0) fun l_a l_n l_c => dB (ρ 1) fun few => dP (ρ 5) fun h0 => dS (ρ 6) fun w_a w_n w_c => dI .i64 (ρ 7) fun i => dI .i64 (ρ 9) fun kind => dI .i64 (ρ 11) fun k0 => dI .i64 (ρ 12) fun y => dB (ρ 13) fun ok0 => K l_a l_n l_c few h0 w_a w_n w_c i kind k0 y ok0
theorem herdsmanlaw13_HeapPlays.d21_elim {K : Option Addr → Nat → Nat → Bool → Option Addr → Option Addr → Nat → Nat → Int → Int → Int → Int → Bool → Prop} {ρ : Env} (h0 : herdsmanlaw13_HeapPlays.d21 K ρ) : ∃ (l_a : Option Addr) (l_n : Nat) (l_c : Nat) (few : Bool) (h0 : Option Addr) (w_a : Option Addr) (w_n : Nat) (w_c : Nat) (i : Int) (kind : Int) (k0 : Int) (y : Int) (ok0 : Bool), ρ 0 = .slice l_a l_n l_c ∧ ρ 1 = .bool few ∧ ρ 5 = .pointer h0 ∧ ρ 6 = .slice w_a w_n w_c ∧ ρ 7 = .int .i64 i ∧ ρ 9 = .int .i64 kind ∧ ρ 11 = .int .i64 k0 ∧ ρ 12 = .int .i64 y ∧ ρ 13 = .bool ok0 ∧ K l_a l_n l_c few h0 w_a w_n w_c i kind k0 y ok0 := by
  obtain ⟨l_a, l_n, l_c, e0, h1⟩ := dS_elim h0
  obtain ⟨few, e1, h2⟩ := dB_elim h1
  obtain ⟨h0, e5, h3⟩ := dP_elim h2
  obtain ⟨w_a, w_n, w_c, e6, h4⟩ := dS_elim h3
  obtain ⟨i, e7, h5⟩ := dI_elim h4
  obtain ⟨kind, e9, h6⟩ := dI_elim h5
  obtain ⟨k0, e11, h7⟩ := dI_elim h6
  obtain ⟨y, e12, h8⟩ := dI_elim h7
  obtain ⟨ok0, e13, h9⟩ := dB_elim h8
  exact ⟨l_a, l_n, l_c, few, h0, w_a, w_n, w_c, i, kind, k0, y, ok0, e0, e1, e5, e6, e7, e9, e11, e12, e13, h9⟩
def herdsmanlaw13_HeapPlays.d23 (K : Option Addr → Nat → Nat → Bool → Option Addr → Option Addr → Nat → Nat → Int → Int → Bool → Prop) (ρ : Env) : Prop :=
  dS (ρ 0) fun l_a l_n l_c => dB (ρ 1) fun few => dP (ρ 5) fun h0 => dS (ρ 6) fun w_a w_n w_c => dI .i64 (ρ 7) fun i => dI .i64 (ρ 9) fun kind => dB (ρ 13) fun ok0 => K l_a l_n l_c few h0 w_a w_n w_c i kind ok0
theorem herdsmanlaw13_HeapPlays.d23_elim {K : Option Addr → Nat → Nat → Bool → Option Addr → Option Addr → Nat → Nat → Int → Int → Bool → Prop} {ρ : Env} (h0 : herdsmanlaw13_HeapPlays.d23 K ρ) : ∃ (l_a : Option Addr) (l_n : Nat) (l_c : Nat) (few : Bool) (h0 : Option Addr) (w_a : Option Addr) (w_n : Nat) (w_c : Nat) (i : Int) (kind : Int) (ok0 : Bool), ρ 0 = .slice l_a l_n l_c ∧ ρ 1 = .bool few ∧ ρ 5 = .pointer h0 ∧ ρ 6 = .slice w_a w_n w_c ∧ ρ 7 = .int .i64 i ∧ ρ 9 = .int .i64 kind ∧ ρ 13 = .bool ok0 ∧ K l_a l_n l_c few h0 w_a w_n w_c i kind ok0 := by
  obtain ⟨l_a, l_n, l_c, e0, h1⟩ := dS_elim h0
  obtain ⟨few, e1, h2⟩ := dB_elim h1
  obtain ⟨h0, e5, h3⟩ := dP_elim h2
  obtain ⟨w_a, w_n, w_c, e6, h4⟩ := dS_elim h3
  obtain ⟨i, e7, h5⟩ := dI_elim h4
  obtain ⟨kind, e9, h6⟩ := dI_elim h5
  obtain ⟨ok0, e13, h7⟩ := dB_elim h6
  exact ⟨l_a, l_n, l_c, few, h0, w_a, w_n, w_c, i, kind, ok0, e0, e1, e5, e6, e7, e9, e13, h7⟩
def herdsmanlaw13_HeapPlays.d25 (K : Option Addr → Nat → Nat → Bool → Option Addr → Option Addr → Nat → Nat → Int → Prop) (ρ : Env) : Prop :=
  dS (ρ 0) fun l_a l_n l_c => dB (ρ 1) fun few => dP (ρ 5) fun h0 => dS (ρ 6) fun w_a w_n w_c => dI .i64 (ρ 7) fun i => K l_a l_n l_c few h0 w_a w_n w_c i
theorem herdsmanlaw13_HeapPlays.d25_elim {K : Option Addr → Nat → Nat → Bool → Option Addr → Option Addr → Nat → Nat → Int → Prop} {ρ : Env} (h0 : herdsmanlaw13_HeapPlays.d25 K ρ) : ∃ (l_a : Option Addr) (l_n : Nat) (l_c : Nat) (few : Bool) (h0 : Option Addr) (w_a : Option Addr) (w_n : Nat) (w_c : Nat) (i : Int), ρ 0 = .slice l_a l_n l_c ∧ ρ 1 = .bool few ∧ ρ 5 = .pointer h0 ∧ ρ 6 = .slice w_a w_n w_c ∧ ρ 7 = .int .i64 i ∧ K l_a l_n l_c few h0 w_a w_n w_c i := by
  obtain ⟨l_a, l_n, l_c, e0, h1⟩ := dS_elim h0
  obtain ⟨few, e1, h2⟩ := dB_elim h1
  obtain ⟨h0, e5, h3⟩ := dP_elim h2
  obtain ⟨w_a, w_n, w_c, e6, h4⟩ := dS_elim h3
  obtain ⟨i, e7, h5⟩ := dI_elim h4
  exact ⟨l_a, l_n, l_c, few, h0, w_a, w_n, w_c, i, e0, e1, e5, e6, e7, h5⟩
set_option maxRecDepth 100000 in
theorem herdsmanlaw13_HeapPlays.f25 (P6 : Option Addr → Nat → Nat → Bool → Option Addr → Option Addr → Nat → Nat → Int → World → Prop) (Q : Bool → World → Prop) (HP6 : ∀ l_a l_n l_c few h0 w_a w_n w_c i w, P6 l_a l_n l_c few h0 w_a w_n w_c i w → ∀ ρ : Env, ρ 0 = .slice l_a l_n l_c → ρ 1 = .bool few → ρ 5 = .pointer h0 → ρ 6 = .slice w_a w_n w_c → ρ 7 = .int .i64 i → Fin (cx 166) (todoOf Go.Proofs.Try.f3 6) ρ w (herdsmanlaw13_HeapPlays.R Q)) : ∀ l_a l_n l_c few h0 w_a w_n w_c i w, herdsmanlaw13_HeapPlays.b25 P6 Q l_a l_n l_c few h0 w_a w_n w_c i w → ∀ ρ : Env, ρ 0 = .slice l_a l_n l_c → ρ 1 = .bool few → ρ 5 = .pointer h0 → ρ 6 = .slice w_a w_n w_c → ρ 7 = .int .i64 i → Fin (cx 166) (todoOf Go.Proofs.Try.f3 25) ρ w (herdsmanlaw13_HeapPlays.R Q) := by
  intro l_a l_n l_c few h0 w_a w_n w_c i w h ρ e0 e1 e5 e6 e7
  refine Fin.cut (ρ' := put (put (put (put (put (ρ) (some 0) (.slice l_a l_n l_c)) (some 1) (.bool few)) (some 5) (.pointer h0)) (some 6) (.slice w_a w_n w_c)) (some 7) (.int .i64 i)) ?_ (by rw [put_id e0, put_id e1, put_id e5, put_id e6, put_id e7])
  refine evT_sound (ok 166) (drawD_sound (ok 166) herdsmanlaw13_HeapPlays.scr) 600 (L := [(6, fun ρ w => herdsmanlaw13_HeapPlays.d6 (fun l_a l_n l_c few h0 w_a w_n w_c i => P6 l_a l_n l_c few h0 w_a w_n w_c i w) ρ)]) (leaf_of (fn := Go.Proofs.Try.f3) [6] (by kernel_rfl) ⟨fun ρ w h => by obtain ⟨l_a, l_n, l_c, few, h0, w_a, w_n, w_c, i, e0, e1, e5, e6, e7, h⟩ := herdsmanlaw13_HeapPlays.d6_elim h; exact HP6 l_a l_n l_c few h0 w_a w_n w_c i w h ρ e0 e1 e5 e6 e7, trivial⟩) (castK h (by kernel_rfl))
set_option maxRecDepth 100000 in
theorem herdsmanlaw13_HeapPlays.f17 (P6 : Option Addr → Nat → Nat → Bool → Option Addr → Option Addr → Nat → Nat → Int → World → Prop) (Q : Bool → World → Prop) (HP6 : ∀ l_a l_n l_c few h0 w_a w_n w_c i w, P6 l_a l_n l_c few h0 w_a w_n w_c i w → ∀ ρ : Env, ρ 0 = .slice l_a l_n l_c → ρ 1 = .bool few → ρ 5 = .pointer h0 → ρ 6 = .slice w_a w_n w_c → ρ 7 = .int .i64 i → Fin (cx 166) (todoOf Go.Proofs.Try.f3 6) ρ w (herdsmanlaw13_HeapPlays.R Q)) : ∀ l_a l_n l_c few h0 w_a w_n w_c i x at0 w, herdsmanlaw13_HeapPlays.b17 P6 Q l_a l_n l_c few h0 w_a w_n w_c i x at0 w → ∀ ρ : Env, ρ 0 = .slice l_a l_n l_c → ρ 1 = .bool few → ρ 5 = .pointer h0 → ρ 6 = .slice w_a w_n w_c → ρ 7 = .int .i64 i → ρ 8 = .pointer (some x) → ρ 10 = .int .i64 at0 → Fin (cx 166) (todoOf Go.Proofs.Try.f3 17) ρ w (herdsmanlaw13_HeapPlays.R Q) := by
  intro l_a l_n l_c few h0 w_a w_n w_c i x at0 w h ρ e0 e1 e5 e6 e7 e8 e10
  refine Fin.cut (ρ' := put (put (put (put (put (put (put (ρ) (some 0) (.slice l_a l_n l_c)) (some 1) (.bool few)) (some 5) (.pointer h0)) (some 6) (.slice w_a w_n w_c)) (some 7) (.int .i64 i)) (some 8) (.pointer (some x))) (some 10) (.int .i64 at0)) ?_ (by rw [put_id e0, put_id e1, put_id e5, put_id e6, put_id e7, put_id e8, put_id e10])
  refine evT_sound (ok 166) (drawD_sound (ok 166) herdsmanlaw13_HeapPlays.scr) 600 (L := [(25, fun ρ w => herdsmanlaw13_HeapPlays.d25 (fun l_a l_n l_c few h0 w_a w_n w_c i => herdsmanlaw13_HeapPlays.b25 P6 Q l_a l_n l_c few h0 w_a w_n w_c i w) ρ)]) (leaf_of (fn := Go.Proofs.Try.f3) [25] (by kernel_rfl) ⟨fun ρ w h => by obtain ⟨l_a, l_n, l_c, few, h0, w_a, w_n, w_c, i, e0, e1, e5, e6, e7, h⟩ := herdsmanlaw13_HeapPlays.d25_elim h; exact herdsmanlaw13_HeapPlays.f25 P6 Q HP6 l_a l_n l_c few h0 w_a w_n w_c i w h ρ e0 e1 e5 e6 e7, trivial⟩) (castK h (by kernel_rfl))
set_option maxRecDepth 100000 in
theorem herdsmanlaw13_HeapPlays.f15 (P6 : Option Addr → Nat → Nat → Bool → Option Addr → Option Addr → Nat → Nat → Int → World → Prop) (Q : Bool → World → Prop) (HP6 : ∀ l_a l_n l_c few h0 w_a w_n w_c i w, P6 l_a l_n l_c few h0 w_a w_n w_c i w → ∀ ρ : Env, ρ 0 = .slice l_a l_n l_c → ρ 1 = .bool few → ρ 5 = .pointer h0 → ρ 6 = .slice w_a w_n w_c → ρ 7 = .int .i64 i → Fin (cx 166) (todoOf Go.Proofs.Try.f3 6) ρ w (herdsmanlaw13_HeapPlays.R Q)) : ∀ k l_a l_n l_c few h0 w_a w_n w_c i x at0 w, herdsmanlaw13_HeapPlays.b15 P6 Q k l_a l_n l_c few h0 w_a w_n w_c i x at0 w → ∀ ρ : Env, ρ 0 = .slice l_a l_n l_c → ρ 1 = .bool few → ρ 5 = .pointer h0 → ρ 6 = .slice w_a w_n w_c → ρ 7 = .int .i64 i → ρ 8 = .pointer (some x) → ρ 10 = .int .i64 at0 → Fin (cx 166) (todoOf Go.Proofs.Try.f3 15) ρ w (herdsmanlaw13_HeapPlays.R Q) := by
  intro k
  induction k with
  | zero => intro l_a l_n l_c few h0 w_a w_n w_c i x at0 w h; exact h.elim
  | succ k ih =>
    intro l_a l_n l_c few h0 w_a w_n w_c i x at0 w h ρ e0 e1 e5 e6 e7 e8 e10
    have h : herdsmanlaw13_HeapPlays.s15 P6 Q (herdsmanlaw13_HeapPlays.b15 P6 Q k) l_a l_n l_c few h0 w_a w_n w_c i x at0 w := h
    refine Fin.cut (ρ' := put (put (put (put (put (put (put (ρ) (some 0) (.slice l_a l_n l_c)) (some 1) (.bool few)) (some 5) (.pointer h0)) (some 6) (.slice w_a w_n w_c)) (some 7) (.int .i64 i)) (some 8) (.pointer (some x))) (some 10) (.int .i64 at0)) ?_ (by rw [put_id e0, put_id e1, put_id e5, put_id e6, put_id e7, put_id e8, put_id e10])
    refine evT_sound (ok 166) (drawD_sound (ok 166) herdsmanlaw13_HeapPlays.scr) 600 (L := [(15, fun ρ w => herdsmanlaw13_HeapPlays.d15 (fun l_a l_n l_c few h0 w_a w_n w_c i x at0 => herdsmanlaw13_HeapPlays.b15 P6 Q k l_a l_n l_c few h0 w_a w_n w_c i x at0 w) ρ), (17, fun ρ w => herdsmanlaw13_HeapPlays.d17 (fun l_a l_n l_c few h0 w_a w_n w_c i x at0 => herdsmanlaw13_HeapPlays.b17 P6 Q l_a l_n l_c few h0 w_a w_n w_c i x at0 w) ρ)]) (leaf_of (fn := Go.Proofs.Try.f3) [15, 17] (by kernel_rfl) ⟨fun ρ w h => by obtain ⟨l_a, l_n, l_c, few, h0, w_a, w_n, w_c, i, x, at0, e0, e1, e5, e6, e7, e8, e10, h⟩ := herdsmanlaw13_HeapPlays.d15_elim h; exact ih l_a l_n l_c few h0 w_a w_n w_c i x at0 w h ρ e0 e1 e5 e6 e7 e8 e10, fun ρ w h => by obtain ⟨l_a, l_n, l_c, few, h0, w_a, w_n, w_c, i, x, at0, e0, e1, e5, e6, e7, e8, e10, h⟩ := herdsmanlaw13_HeapPlays.d17_elim h; exact herdsmanlaw13_HeapPlays.f17 P6 Q HP6 l_a l_n l_c few h0 w_a w_n w_c i x at0 w h ρ e0 e1 e5 e6 e7 e8 e10, trivial⟩) (castK h (by kernel_rfl))
set_option maxRecDepth 100000 in
theorem herdsmanlaw13_HeapPlays.f23 (P6 : Option Addr → Nat → Nat → Bool → Option Addr → Option Addr → Nat → Nat → Int → World → Prop) (Q : Bool → World → Prop) (HP6 : ∀ l_a l_n l_c few h0 w_a w_n w_c i w, P6 l_a l_n l_c few h0 w_a w_n w_c i w → ∀ ρ : Env, ρ 0 = .slice l_a l_n l_c → ρ 1 = .bool few → ρ 5 = .pointer h0 → ρ 6 = .slice w_a w_n w_c → ρ 7 = .int .i64 i → Fin (cx 166) (todoOf Go.Proofs.Try.f3 6) ρ w (herdsmanlaw13_HeapPlays.R Q)) : ∀ l_a l_n l_c few h0 w_a w_n w_c i kind ok0 w, herdsmanlaw13_HeapPlays.b23 P6 Q l_a l_n l_c few h0 w_a w_n w_c i kind ok0 w → ∀ ρ : Env, ρ 0 = .slice l_a l_n l_c → ρ 1 = .bool few → ρ 5 = .pointer h0 → ρ 6 = .slice w_a w_n w_c → ρ 7 = .int .i64 i → ρ 9 = .int .i64 kind → ρ 13 = .bool ok0 → Fin (cx 166) (todoOf Go.Proofs.Try.f3 23) ρ w (herdsmanlaw13_HeapPlays.R Q) := by
  intro l_a l_n l_c few h0 w_a w_n w_c i kind ok0 w h ρ e0 e1 e5 e6 e7 e9 e13
  refine Fin.cut (ρ' := put (put (put (put (put (put (put (ρ) (some 0) (.slice l_a l_n l_c)) (some 1) (.bool few)) (some 5) (.pointer h0)) (some 6) (.slice w_a w_n w_c)) (some 7) (.int .i64 i)) (some 9) (.int .i64 kind)) (some 13) (.bool ok0)) ?_ (by rw [put_id e0, put_id e1, put_id e5, put_id e6, put_id e7, put_id e9, put_id e13])
  refine evT_sound (ok 166) (drawD_sound (ok 166) herdsmanlaw13_HeapPlays.scr) 600 (L := [(25, fun ρ w => herdsmanlaw13_HeapPlays.d25 (fun l_a l_n l_c few h0 w_a w_n w_c i => herdsmanlaw13_HeapPlays.b25 P6 Q l_a l_n l_c few h0 w_a w_n w_c i w) ρ)]) (leaf_of (fn := Go.Proofs.Try.f3) [25, 25] (by kernel_rfl) ⟨fun ρ w h => by obtain ⟨l_a, l_n, l_c, few, h0, w_a, w_n, w_c, i, e0, e1, e5, e6, e7, h⟩ := herdsmanlaw13_HeapPlays.d25_elim h; exact herdsmanlaw13_HeapPlays.f25 P6 Q HP6 l_a l_n l_c few h0 w_a w_n w_c i w h ρ e0 e1 e5 e6 e7, trivial⟩) (castK h (by kernel_rfl))
set_option maxRecDepth 100000 in
theorem herdsmanlaw13_HeapPlays.f21 (P6 : Option Addr → Nat → Nat → Bool → Option Addr → Option Addr → Nat → Nat → Int → World → Prop) (Q : Bool → World → Prop) (HP6 : ∀ l_a l_n l_c few h0 w_a w_n w_c i w, P6 l_a l_n l_c few h0 w_a w_n w_c i w → ∀ ρ : Env, ρ 0 = .slice l_a l_n l_c → ρ 1 = .bool few → ρ 5 = .pointer h0 → ρ 6 = .slice w_a w_n w_c → ρ 7 = .int .i64 i → Fin (cx 166) (todoOf Go.Proofs.Try.f3 6) ρ w (herdsmanlaw13_HeapPlays.R Q)) : ∀ l_a l_n l_c few h0 w_a w_n w_c i kind k0 y ok0 w, herdsmanlaw13_HeapPlays.b21 P6 Q l_a l_n l_c few h0 w_a w_n w_c i kind k0 y ok0 w → ∀ ρ : Env, ρ 0 = .slice l_a l_n l_c → ρ 1 = .bool few → ρ 5 = .pointer h0 → ρ 6 = .slice w_a w_n w_c → ρ 7 = .int .i64 i → ρ 9 = .int .i64 kind → ρ 11 = .int .i64 k0 → ρ 12 = .int .i64 y → ρ 13 = .bool ok0 → Fin (cx 166) (todoOf Go.Proofs.Try.f3 21) ρ w (herdsmanlaw13_HeapPlays.R Q) := by
  intro l_a l_n l_c few h0 w_a w_n w_c i kind k0 y ok0 w h ρ e0 e1 e5 e6 e7 e9 e11 e12 e13
  refine Fin.cut (ρ' := put (put (put (put (put (put (put (put (put (ρ) (some 0) (.slice l_a l_n l_c)) (some 1) (.bool few)) (some 5) (.pointer h0)) (some 6) (.slice w_a w_n w_c)) (some 7) (.int .i64 i)) (some 9) (.int .i64 kind)) (some 11) (.int .i64 k0)) (some 12) (.int .i64 y)) (some 13) (.bool ok0)) ?_ (by rw [put_id e0, put_id e1, put_id e5, put_id e6, put_id e7, put_id e9, put_id e11, put_id e12, put_id e13])
  refine evT_sound (ok 166) (drawD_sound (ok 166) herdsmanlaw13_HeapPlays.scr) 600 (L := [(23, fun ρ w => herdsmanlaw13_HeapPlays.d23 (fun l_a l_n l_c few h0 w_a w_n w_c i kind ok0 => herdsmanlaw13_HeapPlays.b23 P6 Q l_a l_n l_c few h0 w_a w_n w_c i kind ok0 w) ρ)]) (leaf_of (fn := Go.Proofs.Try.f3) [23] (by kernel_rfl) ⟨fun ρ w h => by obtain ⟨l_a, l_n, l_c, few, h0, w_a, w_n, w_c, i, kind, ok0, e0, e1, e5, e6, e7, e9, e13, h⟩ := herdsmanlaw13_HeapPlays.d23_elim h; exact herdsmanlaw13_HeapPlays.f23 P6 Q HP6 l_a l_n l_c few h0 w_a w_n w_c i kind ok0 w h ρ e0 e1 e5 e6 e7 e9 e13, trivial⟩) (castK h (by kernel_rfl))
set_option maxRecDepth 100000 in
theorem herdsmanlaw13_HeapPlays.f11 (P6 : Option Addr → Nat → Nat → Bool → Option Addr → Option Addr → Nat → Nat → Int → World → Prop) (Q : Bool → World → Prop) (HP6 : ∀ l_a l_n l_c few h0 w_a w_n w_c i w, P6 l_a l_n l_c few h0 w_a w_n w_c i w → ∀ ρ : Env, ρ 0 = .slice l_a l_n l_c → ρ 1 = .bool few → ρ 5 = .pointer h0 → ρ 6 = .slice w_a w_n w_c → ρ 7 = .int .i64 i → Fin (cx 166) (todoOf Go.Proofs.Try.f3 6) ρ w (herdsmanlaw13_HeapPlays.R Q)) : ∀ l_a l_n l_c few h0 w_a w_n w_c i x w, herdsmanlaw13_HeapPlays.b11 P6 Q l_a l_n l_c few h0 w_a w_n w_c i x w → ∀ ρ : Env, ρ 0 = .slice l_a l_n l_c → ρ 1 = .bool few → ρ 5 = .pointer h0 → ρ 6 = .slice w_a w_n w_c → ρ 7 = .int .i64 i → ρ 8 = .pointer (some x) → Fin (cx 166) (todoOf Go.Proofs.Try.f3 11) ρ w (herdsmanlaw13_HeapPlays.R Q) := by
  intro l_a l_n l_c few h0 w_a w_n w_c i x w h ρ e0 e1 e5 e6 e7 e8
  refine Fin.cut (ρ' := put (put (put (put (put (put (ρ) (some 0) (.slice l_a l_n l_c)) (some 1) (.bool few)) (some 5) (.pointer h0)) (some 6) (.slice w_a w_n w_c)) (some 7) (.int .i64 i)) (some 8) (.pointer (some x))) ?_ (by rw [put_id e0, put_id e1, put_id e5, put_id e6, put_id e7, put_id e8])
  refine evT_sound (ok 166) (drawD_sound (ok 166) herdsmanlaw13_HeapPlays.scr) 600 (L := [(15, fun ρ w => herdsmanlaw13_HeapPlays.d15 (fun l_a l_n l_c few h0 w_a w_n w_c i x at0 => ∃ k', herdsmanlaw13_HeapPlays.b15 P6 Q k' l_a l_n l_c few h0 w_a w_n w_c i x at0 w) ρ), (21, fun ρ w => herdsmanlaw13_HeapPlays.d21 (fun l_a l_n l_c few h0 w_a w_n w_c i kind k0 y ok0 => herdsmanlaw13_HeapPlays.b21 P6 Q l_a l_n l_c few h0 w_a w_n w_c i kind k0 y ok0 w) ρ)]) (leaf_of (fn := Go.Proofs.Try.f3) [15, 21, 21] (by kernel_rfl) ⟨fun ρ w h => by obtain ⟨l_a, l_n, l_c, few, h0, w_a, w_n, w_c, i, x, at0, e0, e1, e5, e6, e7, e8, e10, h⟩ := herdsmanlaw13_HeapPlays.d15_elim h; obtain ⟨k', h⟩ := h; exact herdsmanlaw13_HeapPlays.f15 P6 Q HP6 k' l_a l_n l_c few h0 w_a w_n w_c i x at0 w h ρ e0 e1 e5 e6 e7 e8 e10, fun ρ w h => by obtain ⟨l_a, l_n, l_c, few, h0, w_a, w_n, w_c, i, kind, k0, y, ok0, e0, e1, e5, e6, e7, e9, e11, e12, e13, h⟩ := herdsmanlaw13_HeapPlays.d21_elim h; exact herdsmanlaw13_HeapPlays.f21 P6 Q HP6 l_a l_n l_c few h0 w_a w_n w_c i kind k0 y ok0 w h ρ e0 e1 e5 e6 e7 e9 e11 e12 e13, trivial⟩) (castK h (by kernel_rfl))
set_option maxRecDepth 100000 in
theorem herdsmanlaw13_HeapPlays.f6 (Q : Bool → World → Prop) : ∀ k l_a l_n l_c few h0 w_a w_n w_c i w, herdsmanlaw13_HeapPlays.b6 Q k l_a l_n l_c few h0 w_a w_n w_c i w → ∀ ρ : Env, ρ 0 = .slice l_a l_n l_c → ρ 1 = .bool few → ρ 5 = .pointer h0 → ρ 6 = .slice w_a w_n w_c → ρ 7 = .int .i64 i → Fin (cx 166) (todoOf Go.Proofs.Try.f3 6) ρ w (herdsmanlaw13_HeapPlays.R Q) := by
  intro k
  induction k with
  | zero => intro l_a l_n l_c few h0 w_a w_n w_c i w h; exact h.elim
  | succ k ih =>
    intro l_a l_n l_c few h0 w_a w_n w_c i w h ρ e0 e1 e5 e6 e7
    have h : herdsmanlaw13_HeapPlays.s6 Q (herdsmanlaw13_HeapPlays.b6 Q k) l_a l_n l_c few h0 w_a w_n w_c i w := h
    refine Fin.cut (ρ' := put (put (put (put (put (ρ) (some 0) (.slice l_a l_n l_c)) (some 1) (.bool few)) (some 5) (.pointer h0)) (some 6) (.slice w_a w_n w_c)) (some 7) (.int .i64 i)) ?_ (by rw [put_id e0, put_id e1, put_id e5, put_id e6, put_id e7])
    refine evT_sound (ok 166) (drawD_sound (ok 166) herdsmanlaw13_HeapPlays.scr) 600 (L := [(11, fun ρ w => herdsmanlaw13_HeapPlays.d11 (fun l_a l_n l_c few h0 w_a w_n w_c i x => herdsmanlaw13_HeapPlays.b11 (herdsmanlaw13_HeapPlays.b6 Q k) Q l_a l_n l_c few h0 w_a w_n w_c i x w) ρ)]) (leaf_of (fn := Go.Proofs.Try.f3) [11, 11] (by kernel_rfl) ⟨fun ρ w h => by obtain ⟨l_a, l_n, l_c, few, h0, w_a, w_n, w_c, i, x, e0, e1, e5, e6, e7, e8, h⟩ := herdsmanlaw13_HeapPlays.d11_elim h; exact herdsmanlaw13_HeapPlays.f11 (herdsmanlaw13_HeapPlays.b6 Q k) Q ih l_a l_n l_c few h0 w_a w_n w_c i x w h ρ e0 e1 e5 e6 e7 e8, trivial⟩) (castK h (by kernel_rfl))
set_option maxRecDepth 100000 in
theorem herdsmanlaw13_HeapPlays.body (l_a : Option Addr) (l_n : Nat) (l_c : Nat) (few : Bool) (w : World) (Q : Bool → World → Prop) (h : herdsmanlaw13_HeapPlays.sh l_a l_n l_c few w Q) : herdsmanlaw13_HeapPlays.call l_a l_n l_c few w Q := by
  refine call_fn (ok 166) (fn := Go.Proofs.Try.f3) (args := [.slice l_a l_n l_c, .bool few]) (K := herdsmanlaw13_HeapPlays.qv Q) Go.Proofs.Try.func3 (by kernel_rfl) (by kernel_rfl) (by kernel_rfl) ?_
  refine evT_sound (ok 166) (drawD_sound (ok 166) herdsmanlaw13_HeapPlays.scr) 600 (L := [(6, fun ρ w => herdsmanlaw13_HeapPlays.d6 (fun l_a l_n l_c few h0 w_a w_n w_c i => ∃ k', herdsmanlaw13_HeapPlays.b6 Q k' l_a l_n l_c few h0 w_a w_n w_c i w) ρ)]) (leaf_of (fn := Go.Proofs.Try.f3) [6] (by kernel_rfl) ⟨fun ρ w h => by obtain ⟨l_a, l_n, l_c, few, h0, w_a, w_n, w_c, i, e0, e1, e5, e6, e7, h⟩ := herdsmanlaw13_HeapPlays.d6_elim h; obtain ⟨k', h⟩ := h; exact herdsmanlaw13_HeapPlays.f6 Q k' l_a l_n l_c few h0 w_a w_n w_c i w h ρ e0 e1 e5 e6 e7, trivial⟩) (castK h (by kernel_rfl))
end Go.Proofs.Yticibkdeiigocaa.S
