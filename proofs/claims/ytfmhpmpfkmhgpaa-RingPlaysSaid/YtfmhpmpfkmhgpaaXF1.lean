/- What the bodies ask, and that a call is no more. Printed by a program of this work (sxgen.py) out of the translation. -/
import Derived.Test.YtfmhpmpfkmhgpaaXT
set_option linter.unusedVariables false
set_option linter.unusedSimpArgs false
namespace Go.Proofs.Ytfmhpmpfkmhgpaa.S
open Go.Sx
/-! ### 6 herdsman/herdsmanlaw7.RingJumps -/
def herdsmanlaw7_RingJumps.b6 (Q : Bool → World → Prop) (f : Int) (t : Int) (r : Option Addr) (may : Bool) (w : World) : Prop :=
  ring_Ring_Jump.call r t w fun r38 w0_1 =>
  cond (!(r38 == may))
  (Q false w0_1)
  (cond (!may)
  (herdsmanlaw7_told.call w0_1 fun r43 w0_2 =>
  cond r43
  (ring_Ring_At.call r w0_2 fun r46 w0_3 =>
  cond (r46 == f)
  (ring_Ring_Jump.call r 1099511627777 w0_3 fun r52 w0_4 =>
  Q (r52 == false) w0_4)
  (Q false w0_3))
  (Q false w0_2))
  (herdsmanlaw7_told.call w0_1 fun r55 w0_5 =>
  cond r55
  (ring_Ring_At.call r w0_5 fun r58 w0_6 =>
  cond (r58 == t)
  (ring_Ring_Put.call r (IntKind.wrap .i64 (t + 255)) 1 w0_6 fun r66 w0_7 =>
  cond r66
  (ring_Ring_Put.call r (IntKind.wrap .i64 (t + 256)) 1 w0_7 fun r72 w0_8 =>
  cond (!r72)
  (ring_Ring_Len.call r w0_8 fun r77 w0_9 =>
  Q (r77 == 1) w0_9)
  (Q false w0_8))
  (Q false w0_7))
  (Q false w0_6))
  (Q false w0_5)))
def herdsmanlaw7_RingJumps.b5 (Q : Bool → World → Prop) (full : Bool) (f : Int) (t : Int) (r : Option Addr) (w : World) : Prop :=
  cond (!full)
  (herdsmanlaw7_RingJumps.b6 Q f t r (decide (t ≥ f)) w)
  (herdsmanlaw7_RingJumps.b6 Q f t r false w)
def herdsmanlaw7_RingJumps.sh (from0 : Int) (to : Int) (full : Bool) (w : World) (Q : Bool → World → Prop) : Prop :=
  herdsmanref1_Within.call from0 0 34359738368 w fun r12 w0_1 =>
  herdsmanref1_Within.call to 0 68719476736 w0_1 fun r14 w0_2 =>
  ring_New.call r12 w0_2 fun r16 w0_3 =>
  cond r16.isNone
  (Q false w0_3)
  (cond full
  (ring_Ring_Put.call r16 (IntKind.wrap .i64 (r12 + 3)) 9 w0_3 fun r25 w0_4 =>
  cond (!r25)
  (Q false w0_4)
  (herdsmanlaw7_RingJumps.b5 Q full r12 r14 r16 w0_4))
  (herdsmanlaw7_RingJumps.b5 Q full r12 r14 r16 w0_3))
noncomputable def herdsmanlaw7_RingJumps.scr : Scrs := []
def herdsmanlaw7_RingJumps.R (Q : Bool → World → Prop) (ρ : Env) (w : World) : Prop := evRes (cx 80) Go.Proofs.Try.f6.results.toList ρ w fun vs => herdsmanlaw7_RingJumps.qv Q (resV vs) w
def herdsmanlaw7_RingJumps.d5 (K : Bool → Int → Int → Option Addr → Prop) (ρ : Env) : Prop :=
  dB (ρ 2) fun full => dI .i64 (ρ 7) fun f => dI .i64 (ρ 8) fun t => dP (ρ 9) fun r => K full f t r
theorem herdsmanlaw7_RingJumps.d5_elim {K : Bool → Int → Int → Option Addr → Prop} {ρ : Env} (h0 : herdsmanlaw7_RingJumps.d5 K ρ) : ∃ (full : Bool) (f : Int) (t : Int) (r : Option Addr), ρ 2 = .bool full ∧ ρ 7 = .int .i64 f ∧ ρ 8 = .int .i64 t ∧ ρ 9 = .pointer r ∧ K full f t r := by
  obtain ⟨full, e2, h1⟩ := dB_elim h0
  obtain ⟨f, e7, h2⟩ := dI_elim h1
  obtain ⟨t, e8, h3⟩ := dI_elim h2
  obtain ⟨r, e9, h4⟩ := dP_elim h3
  exact ⟨full, f, t, r, e2, e7, e8, e9, h4⟩
def herdsmanlaw7_RingJumps.d6 (K : Int → Int → Option Addr → Bool → Prop) (ρ : Env) : Prop :=
  dI .i64 (ρ 7) fun f => dI .i64 (ρ 8) fun t => dP (ρ 9) fun r => dB (ρ 10) fun may => K f t r may
theorem herdsmanlaw7_RingJumps.d6_elim {K : Int → Int → Option Addr → Bool → Prop} {ρ : Env} (h0 : herdsmanlaw7_RingJumps.d6 K ρ) : ∃ (f : Int) (t : Int) (r : Option Addr) (may : Bool), ρ 7 = .int .i64 f ∧ ρ 8 = .int .i64 t ∧ ρ 9 = .pointer r ∧ ρ 10 = .bool may ∧ K f t r may := by
  obtain ⟨f, e7, h1⟩ := dI_elim h0
  obtain ⟨t, e8, h2⟩ := dI_elim h1
  obtain ⟨r, e9, h3⟩ := dP_elim h2
  obtain ⟨may, e10, h4⟩ := dB_elim h3
  exact ⟨f, t, r, may, e7, e8, e9, e10, h4⟩
set_option maxRecDepth 100000 in
theorem herdsmanlaw7_RingJumps.f6 (Q : Bool → World → Prop) : ∀ f t r may w, herdsmanlaw7_RingJumps.b6 Q f t r may w → ∀ ρ : Env, ρ 7 = .int .i64 f → ρ 8 = .int .i64 t → ρ 9 = .pointer r → ρ 10 = .bool may → Fin (cx 80) (todoOf Go.Proofs.Try.f6 6) ρ w (herdsmanlaw7_RingJumps.R Q) := by
  intro f t r may w h ρ e7 e8 e9 e10
  refine Fin.cut (ρ' := put (put (put (put (ρ) (some 7) (.int .i64 f)) (some 8) (.int .i64 t)) (some 9) (.pointer r)) (some 10) (.bool may)) ?_ (by rw [put_id e7, put_id e8, put_id e9, put_id e10])
  refine evT_sound (ok 80) (drawD_sound (ok 80) herdsmanlaw7_RingJumps.scr) 600 (L := []) (leaf_of (fn := Go.Proofs.Try.f6) [] (by kernel_rfl) trivial) (castK h (by kernel_rfl))
set_option maxRecDepth 100000 in
theorem herdsmanlaw7_RingJumps.f5 (Q : Bool → World → Prop) : ∀ full f t r w, herdsmanlaw7_RingJumps.b5 Q full f t r w → ∀ ρ : Env, ρ 2 = .bool full → ρ 7 = .int .i64 f → ρ 8 = .int .i64 t → ρ 9 = .pointer r → Fin (cx 80) (todoOf Go.Proofs.Try.f6 5) ρ w (herdsmanlaw7_RingJumps.R Q) := by
  intro full f t r w h ρ e2 e7 e8 e9
  refine Fin.cut (ρ' := put (put (put (put (ρ) (some 2) (.bool full)) (some 7) (.int .i64 f)) (some 8) (.int .i64 t)) (some 9) (.pointer r)) ?_ (by rw [put_id e2, put_id e7, put_id e8, put_id e9])
  refine evT_sound (ok 80) (drawD_sound (ok 80) herdsmanlaw7_RingJumps.scr) 600 (L := [(6, fun ρ w => herdsmanlaw7_RingJumps.d6 (fun f t r may => herdsmanlaw7_RingJumps.b6 Q f t r may w) ρ)]) (leaf_of (fn := Go.Proofs.Try.f6) [6] (by kernel_rfl) ⟨fun ρ w h => by obtain ⟨f, t, r, may, e7, e8, e9, e10, h⟩ := herdsmanlaw7_RingJumps.d6_elim (ρ := ρ) h; exact herdsmanlaw7_RingJumps.f6 Q f t r may w h ρ e7 e8 e9 e10, trivial⟩) (castK h (by kernel_rfl))
set_option maxRecDepth 100000 in
theorem herdsmanlaw7_RingJumps.body (from0 : Int) (to : Int) (full : Bool) (w : World) (Q : Bool → World → Prop) (h : herdsmanlaw7_RingJumps.sh from0 to full w Q) : herdsmanlaw7_RingJumps.call from0 to full w Q := by
  refine call_fn (ok 80) (fn := Go.Proofs.Try.f6) (args := [.int .i64 from0, .int .i64 to, .bool full]) (K := herdsmanlaw7_RingJumps.qv Q) Go.Proofs.Try.func6 (by kernel_rfl) (by kernel_rfl) (by kernel_rfl) ?_
  refine evT_sound (ok 80) (drawD_sound (ok 80) herdsmanlaw7_RingJumps.scr) 600 (L := [(5, fun ρ w => herdsmanlaw7_RingJumps.d5 (fun full f t r => herdsmanlaw7_RingJumps.b5 Q full f t r w) ρ)]) (leaf_of (fn := Go.Proofs.Try.f6) [5] (by kernel_rfl) ⟨fun ρ w h => by obtain ⟨full, f, t, r, e2, e7, e8, e9, h⟩ := herdsmanlaw7_RingJumps.d5_elim (ρ := ρ) h; exact herdsmanlaw7_RingJumps.f5 Q full f t r w h ρ e2 e7 e8 e9, trivial⟩) (castK h (by kernel_rfl))
/-! ### 7 herdsman/herdsmanlaw7.RingNone -/
def herdsmanlaw7_RingNone.sh (key : Int) (item : Int) (w : World) (Q : Bool → World → Prop) : Prop :=
  ring_Ring_Pop.call none w fun r13_key r13_item r13_ok w0_1 =>
  ring_New.call 0 w0_1 fun r17 w0_2 =>
  ring_New.call 0 w0_2 fun r18 w0_3 =>
  cond r17.isNone
  (Q false w0_3)
  (cond r18.isNone
  (Q false w0_3)
  (ring_Ring_Put.call r17 5 item w0_3 fun r28 w0_4 =>
  cond (!r28)
  (Q false w0_4)
  (herdsmanlaw7_told.call w0_4 fun r31 w0_5 =>
  cond r31
  (cond (r13_key == 0)
  (cond (r13_item == 0)
  (cond (!r13_ok)
  (ring_Ring_Put.call none key item w0_5 fun r48 w0_6 =>
  cond (!r48)
  (ring_Ring_Jump.call none key w0_6 fun r54 w0_7 =>
  cond (!r54)
  (ring_Ring_At.call none w0_7 fun r59 w0_8 =>
  cond (r59 == 0)
  (ring_Ring_Len.call none w0_8 fun r64 w0_9 =>
  cond (r64 == 0)
  (ring_Ring_Len.call r18 w0_9 fun r69 w0_10 =>
  cond (r69 == 0)
  (ring_Ring_Len.call r17 w0_10 fun r74 w0_11 =>
  Q (r74 == 1) w0_11)
  (Q false w0_10))
  (Q false w0_9))
  (Q false w0_8))
  (Q false w0_7))
  (Q false w0_6))
  (Q false w0_5))
  (Q false w0_5))
  (Q false w0_5))
  (Q false w0_5))))
noncomputable def herdsmanlaw7_RingNone.scr : Scrs := []
def herdsmanlaw7_RingNone.R (Q : Bool → World → Prop) (ρ : Env) (w : World) : Prop := evRes (cx 77) Go.Proofs.Try.f7.results.toList ρ w fun vs => herdsmanlaw7_RingNone.qv Q (resV vs) w
set_option maxRecDepth 100000 in
theorem herdsmanlaw7_RingNone.body (key : Int) (item : Int) (w : World) (Q : Bool → World → Prop) (h : herdsmanlaw7_RingNone.sh key item w Q) : herdsmanlaw7_RingNone.call key item w Q := by
  refine call_fn (ok 77) (fn := Go.Proofs.Try.f7) (args := [.int .i64 key, .int .i64 item]) (K := herdsmanlaw7_RingNone.qv Q) Go.Proofs.Try.func7 (by kernel_rfl) (by kernel_rfl) (by kernel_rfl) ?_
  refine evT_sound (ok 77) (drawD_sound (ok 77) herdsmanlaw7_RingNone.scr) 600 (L := []) (leaf_of (fn := Go.Proofs.Try.f7) [] (by kernel_rfl) trivial) (castK h (by kernel_rfl))
end Go.Proofs.Ytfmhpmpfkmhgpaa.S
