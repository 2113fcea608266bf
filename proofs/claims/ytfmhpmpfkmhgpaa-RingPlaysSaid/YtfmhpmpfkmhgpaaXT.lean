/- What the functions ask: the types' table, the calls. Printed by a program of this work (sxgen.py) out of the translation. -/
import Derived.Test.YtfmhpmpfkmhgpaaProg
import Derived.Test.YtfmhpmpfkmhgpaaSxE
set_option linter.unusedVariables false
set_option linter.unusedSimpArgs false
namespace Go.Proofs.Ytfmhpmpfkmhgpaa.S
open Go.Sx
noncomputable abbrev P : Program := Go.Proofs.Try.prog
noncomputable def rows : List (Nat × TI) := [(0, ⟨.tup [], 1, 0, [.tuple #[]], []⟩),
  (3, ⟨.int .i64, 1, 8, [.int .i64 0], [.int .i64]⟩),
  (4, ⟨.bool, 1, 1, [.bool false], [.bool]⟩),
  (22, ⟨.slice 3, 1, 24, [.slice none 0 0], [.sl]⟩),
  (24, ⟨.ptr, 1, 8, [.pointer none], [.ptr]⟩),
  (27, ⟨.slice 4, 1, 24, [.slice none 0 0], [.sl]⟩),
  (28, ⟨.tup [3, 3, 4], 1, 0, [.tuple #[.int .i64 0, .int .i64 0, .bool false]], []⟩),
  (33, ⟨.slice 39, 1, 24, [.slice none 0 0], [.sl]⟩),
  (34, ⟨.ptr, 1, 8, [.pointer none], [.ptr]⟩),
  (35, ⟨.slice 50, 1, 24, [.slice none 0 0], [.sl]⟩),
  (37, ⟨.struct [(0, 3), (1, 35)], 2, 32, [.int .i64 0, .slice none 0 0], [.int .i64, .sl]⟩),
  (39, ⟨.struct [(0, 3), (1, 3), (2, 3)], 3, 24, [.int .i64 0, .int .i64 0, .int .i64 0], [.int .i64, .int .i64, .int .i64]⟩),
  (44, ⟨.struct [(0, 22), (1, 3)], 2, 32, [.slice none 0 0, .int .i64 0], [.sl, .int .i64]⟩),
  (45, ⟨.arr 256 44, 512, 8192, ([] ++ (List.replicate 256 [.slice none 0 0, .int .i64 0]).flatten), ([] ++ (List.replicate 256 [.sl, .int .i64]).flatten)⟩),
  (47, ⟨.struct [(0, 3), (1, 3), (2, 45)], 514, 8208, ([.int .i64 0, .int .i64 0] ++ (List.replicate 256 [.slice none 0 0, .int .i64 0]).flatten), ([.int .i64, .int .i64] ++ (List.replicate 256 [.sl, .int .i64]).flatten)⟩),
  (50, ⟨.struct [(0, 3), (1, 3)], 2, 16, [.int .i64 0, .int .i64 0], [.int .i64, .int .i64]⟩),
  (51, ⟨.ptr, 1, 8, [.pointer none], [.ptr]⟩)]
noncomputable def T : Tab := tabOf rows
noncomputable def fns : List Nat := [3, 4, 5, 6, 7, 8, 9, 10, 11, 12, 13, 14, 15, 16, 17, 18, 19, 20, 21]
noncomputable def cx (n : Nat) : Cx := ⟨P, T, fun f => memN f fns, n⟩
theorem rows_ok : rows.map (fun p => viewTI P p.1) = rows.map (fun p => some (p.2.d, p.2.size, p.2.bytes, p.2.zero)) := by kernel_rfl
theorem fns_ok : fnsB P fns = true := by kernel_rfl
theorem mixed_ok : P.follows .mixedOrders = true := by kernel_rfl
theorem ok (n : Nat) : OkCx (cx n) := okCx_of rows_ok fns_ok mixed_ok n
/-! 3 herdsman/herdsmanlaw7.RingAll -/
def herdsmanlaw7_RingAll.qv (Q : Bool → World → Prop) (v : Value) (w : World) : Prop :=
  dB v fun r => Q r w
def herdsmanlaw7_RingAll.call (from0 : Int) (l_a : Option Addr) (l_n : Nat) (l_c : Nat) (w : World) (Q : Bool → World → Prop) : Prop := CallK P 3 #[.int .i64 from0, .slice l_a l_n l_c] w (herdsmanlaw7_RingAll.qv Q)
theorem herdsmanlaw7_RingAll.mono {from0 : Int} {l_a : Option Addr} {l_n : Nat} {l_c : Nat} {w : World} {Q Q' : Bool → World → Prop} (hq : ∀ r w, Q r w → Q' r w) (h : herdsmanlaw7_RingAll.call from0 l_a l_n l_c w Q) : herdsmanlaw7_RingAll.call from0 l_a l_n l_c w Q' := by
  refine CallK.mono ?_ h
  intro v w' h0
  unfold herdsmanlaw7_RingAll.qv at h0 ⊢
  obtain ⟨r, rfl, h1⟩ := dB_elim h0
  exact hq _ w' h1
/-! 4 herdsman/herdsmanlaw7.RingRound -/
def herdsmanlaw7_RingRound.qv (Q : Bool → World → Prop) (v : Value) (w : World) : Prop :=
  dB v fun r => Q r w
def herdsmanlaw7_RingRound.call (from0 : Int) (l_a : Option Addr) (l_n : Nat) (l_c : Nat) (w : World) (Q : Bool → World → Prop) : Prop := CallK P 4 #[.int .i64 from0, .slice l_a l_n l_c] w (herdsmanlaw7_RingRound.qv Q)
theorem herdsmanlaw7_RingRound.mono {from0 : Int} {l_a : Option Addr} {l_n : Nat} {l_c : Nat} {w : World} {Q Q' : Bool → World → Prop} (hq : ∀ r w, Q r w → Q' r w) (h : herdsmanlaw7_RingRound.call from0 l_a l_n l_c w Q) : herdsmanlaw7_RingRound.call from0 l_a l_n l_c w Q' := by
  refine CallK.mono ?_ h
  intro v w' h0
  unfold herdsmanlaw7_RingRound.qv at h0 ⊢
  obtain ⟨r, rfl, h1⟩ := dB_elim h0
  exact hq _ w' h1
/-! 5 herdsman/herdsmanlaw7.RingPlays -/
def herdsmanlaw7_RingPlays.qv (Q : Bool → World → Prop) (v : Value) (w : World) : Prop :=
  dB v fun r => Q r w
def herdsmanlaw7_RingPlays.call (from0 : Int) (l_a : Option Addr) (l_n : Nat) (l_c : Nat) (raw : Bool) (w : World) (Q : Bool → World → Prop) : Prop := CallK P 5 #[.int .i64 from0, .slice l_a l_n l_c, .bool raw] w (herdsmanlaw7_RingPlays.qv Q)
theorem herdsmanlaw7_RingPlays.mono {from0 : Int} {l_a : Option Addr} {l_n : Nat} {l_c : Nat} {raw : Bool} {w : World} {Q Q' : Bool → World → Prop} (hq : ∀ r w, Q r w → Q' r w) (h : herdsmanlaw7_RingPlays.call from0 l_a l_n l_c raw w Q) : herdsmanlaw7_RingPlays.call from0 l_a l_n l_c raw w Q' := by
  refine CallK.mono ?_ h
  intro v w' h0
  unfold herdsmanlaw7_RingPlays.qv at h0 ⊢
  obtain ⟨r, rfl, h1⟩ := dB_elim h0
  exact hq _ w' h1
/-! 6 herdsman/herdsmanlaw7.RingJumps -/
def herdsmanlaw7_RingJumps.qv (Q : Bool → World → Prop) (v : Value) (w : World) : Prop :=
  dB v fun r => Q r w
def herdsmanlaw7_RingJumps.call (from0 : Int) (to : Int) (full : Bool) (w : World) (Q : Bool → World → Prop) : Prop := CallK P 6 #[.int .i64 from0, .int .i64 to, .bool full] w (herdsmanlaw7_RingJumps.qv Q)
theorem herdsmanlaw7_RingJumps.mono {from0 : Int} {to : Int} {full : Bool} {w : World} {Q Q' : Bool → World → Prop} (hq : ∀ r w, Q r w → Q' r w) (h : herdsmanlaw7_RingJumps.call from0 to full w Q) : herdsmanlaw7_RingJumps.call from0 to full w Q' := by
  refine CallK.mono ?_ h
  intro v w' h0
  unfold herdsmanlaw7_RingJumps.qv at h0 ⊢
  obtain ⟨r, rfl, h1⟩ := dB_elim h0
  exact hq _ w' h1
/-! 7 herdsman/herdsmanlaw7.RingNone -/
def herdsmanlaw7_RingNone.qv (Q : Bool → World → Prop) (v : Value) (w : World) : Prop :=
  dB v fun r => Q r w
def herdsmanlaw7_RingNone.call (key : Int) (item : Int) (w : World) (Q : Bool → World → Prop) : Prop := CallK P 7 #[.int .i64 key, .int .i64 item] w (herdsmanlaw7_RingNone.qv Q)
theorem herdsmanlaw7_RingNone.mono {key : Int} {item : Int} {w : World} {Q Q' : Bool → World → Prop} (hq : ∀ r w, Q r w → Q' r w) (h : herdsmanlaw7_RingNone.call key item w Q) : herdsmanlaw7_RingNone.call key item w Q' := by
  refine CallK.mono ?_ h
  intro v w' h0
  unfold herdsmanlaw7_RingNone.qv at h0 ⊢
  obtain ⟨r, rfl, h1⟩ := dB_elim h0
  exact hq _ w' h1
/-! 8 herdsman/herdsmanref1.Within -/
def herdsmanref1_Within.qv (Q : Int → World → Prop) (v : Value) (w : World) : Prop :=
  dI .i64 v fun r => Q r w
def herdsmanref1_Within.call (n : Int) (lo : Int) (hi : Int) (w : World) (Q : Int → World → Prop) : Prop := CallK P 8 #[.int .i64 n, .int .i64 lo, .int .i64 hi] w (herdsmanref1_Within.qv Q)
theorem herdsmanref1_Within.mono {n : Int} {lo : Int} {hi : Int} {w : World} {Q Q' : Int → World → Prop} (hq : ∀ r w, Q r w → Q' r w) (h : herdsmanref1_Within.call n lo hi w Q) : herdsmanref1_Within.call n lo hi w Q' := by
  refine CallK.mono ?_ h
  intro v w' h0
  unfold herdsmanref1_Within.qv at h0 ⊢
  obtain ⟨r, rfl, h1⟩ := dI_elim h0
  exact hq _ w' h1
/-! 9 herdsman/ring.New -/
def ring_New.qv (Q : Option Addr → World → Prop) (v : Value) (w : World) : Prop :=
  dP v fun r => Q r w
def ring_New.call (from0 : Int) (w : World) (Q : Option Addr → World → Prop) : Prop := CallK P 9 #[.int .i64 from0] w (ring_New.qv Q)
theorem ring_New.mono {from0 : Int} {w : World} {Q Q' : Option Addr → World → Prop} (hq : ∀ r w, Q r w → Q' r w) (h : ring_New.call from0 w Q) : ring_New.call from0 w Q' := by
  refine CallK.mono ?_ h
  intro v w' h0
  unfold ring_New.qv at h0 ⊢
  obtain ⟨r, rfl, h1⟩ := dP_elim h0
  exact hq _ w' h1
/-! 10 (*herdsman/ring.Ring).Put -/
def ring_Ring_Put.qv (Q : Bool → World → Prop) (v : Value) (w : World) : Prop :=
  dB v fun r => Q r w
def ring_Ring_Put.call (r : Option Addr) (key : Int) (item : Int) (w : World) (Q : Bool → World → Prop) : Prop := CallK P 10 #[.pointer r, .int .i64 key, .int .i64 item] w (ring_Ring_Put.qv Q)
theorem ring_Ring_Put.mono {r : Option Addr} {key : Int} {item : Int} {w : World} {Q Q' : Bool → World → Prop} (hq : ∀ r w, Q r w → Q' r w) (h : ring_Ring_Put.call r key item w Q) : ring_Ring_Put.call r key item w Q' := by
  refine CallK.mono ?_ h
  intro v w' h0
  unfold ring_Ring_Put.qv at h0 ⊢
  obtain ⟨r, rfl, h1⟩ := dB_elim h0
  exact hq _ w' h1
/-! 11 (*herdsman/ring.Ring).Pop -/
def ring_Ring_Pop.qv (Q : Int → Int → Bool → World → Prop) (v : Value) (w : World) : Prop :=
  dT v fun r_l => dCons r_l fun r_v0 r_l0 => dI .i64 r_v0 fun r_0 => dCons r_l0 fun r_v1 r_l1 => dI .i64 r_v1 fun r_1 => dCons r_l1 fun r_v2 r_l2 => dB r_v2 fun r_2 => dNil r_l2 <| Q r_0 r_1 r_2 w
def ring_Ring_Pop.call (r : Option Addr) (w : World) (Q : Int → Int → Bool → World → Prop) : Prop := CallK P 11 #[.pointer r] w (ring_Ring_Pop.qv Q)
theorem ring_Ring_Pop.mono {r : Option Addr} {w : World} {Q Q' : Int → Int → Bool → World → Prop} (hq : ∀ r r_1 r_2 w, Q r r_1 r_2 w → Q' r r_1 r_2 w) (h : ring_Ring_Pop.call r w Q) : ring_Ring_Pop.call r w Q' := by
  refine CallK.mono ?_ h
  intro v w' h0
  unfold ring_Ring_Pop.qv at h0 ⊢
  obtain ⟨r_l, rfl, h1⟩ := dT_elim h0
  obtain ⟨r_v0, r_l0, rfl, h2⟩ := dCons_elim h1
  obtain ⟨r_0, rfl, h3⟩ := dI_elim h2
  obtain ⟨r_v1, r_l1, rfl, h4⟩ := dCons_elim h3
  obtain ⟨r_1, rfl, h5⟩ := dI_elim h4
  obtain ⟨r_v2, r_l2, rfl, h6⟩ := dCons_elim h5
  obtain ⟨r_2, rfl, h7⟩ := dB_elim h6
  obtain ⟨rfl, h8⟩ := dNil_elim h7
  exact hq _ _ _ w' h8
/-! 12 (*herdsman/ring.Ring).At -/
def ring_Ring_At.qv (Q : Int → World → Prop) (v : Value) (w : World) : Prop :=
  dI .i64 v fun r => Q r w
def ring_Ring_At.call (r : Option Addr) (w : World) (Q : Int → World → Prop) : Prop := CallK P 12 #[.pointer r] w (ring_Ring_At.qv Q)
theorem ring_Ring_At.mono {r : Option Addr} {w : World} {Q Q' : Int → World → Prop} (hq : ∀ r w, Q r w → Q' r w) (h : ring_Ring_At.call r w Q) : ring_Ring_At.call r w Q' := by
  refine CallK.mono ?_ h
  intro v w' h0
  unfold ring_Ring_At.qv at h0 ⊢
  obtain ⟨r, rfl, h1⟩ := dI_elim h0
  exact hq _ w' h1
/-! 13 herdsman/herdsmanlaw7.told -/
def herdsmanlaw7_told.qv (Q : Bool → World → Prop) (v : Value) (w : World) : Prop :=
  dB v fun r => Q r w
def herdsmanlaw7_told.call (w : World) (Q : Bool → World → Prop) : Prop := CallK P 13 #[] w (herdsmanlaw7_told.qv Q)
theorem herdsmanlaw7_told.mono {w : World} {Q Q' : Bool → World → Prop} (hq : ∀ r w, Q r w → Q' r w) (h : herdsmanlaw7_told.call w Q) : herdsmanlaw7_told.call w Q' := by
  refine CallK.mono ?_ h
  intro v w' h0
  unfold herdsmanlaw7_told.qv at h0 ⊢
  obtain ⟨r, rfl, h1⟩ := dB_elim h0
  exact hq _ w' h1
/-! 14 (*herdsman/ring.Ring).Len -/
def ring_Ring_Len.qv (Q : Int → World → Prop) (v : Value) (w : World) : Prop :=
  dI .i64 v fun r => Q r w
def ring_Ring_Len.call (r : Option Addr) (w : World) (Q : Int → World → Prop) : Prop := CallK P 14 #[.pointer r] w (ring_Ring_Len.qv Q)
theorem ring_Ring_Len.mono {r : Option Addr} {w : World} {Q Q' : Int → World → Prop} (hq : ∀ r w, Q r w → Q' r w) (h : ring_Ring_Len.call r w Q) : ring_Ring_Len.call r w Q' := by
  refine CallK.mono ?_ h
  intro v w' h0
  unfold ring_Ring_Len.qv at h0 ⊢
  obtain ⟨r, rfl, h1⟩ := dI_elim h0
  exact hq _ w' h1
/-! 15 (*herdsman/herdsmanref7.Ring).Put -/
def herdsmanref7_Ring_Put.qv (Q : Bool → World → Prop) (v : Value) (w : World) : Prop :=
  dB v fun r => Q r w
def herdsmanref7_Ring_Put.call (r : Option Addr) (key : Int) (item : Int) (w : World) (Q : Bool → World → Prop) : Prop := CallK P 15 #[.pointer r, .int .i64 key, .int .i64 item] w (herdsmanref7_Ring_Put.qv Q)
theorem herdsmanref7_Ring_Put.mono {r : Option Addr} {key : Int} {item : Int} {w : World} {Q Q' : Bool → World → Prop} (hq : ∀ r w, Q r w → Q' r w) (h : herdsmanref7_Ring_Put.call r key item w Q) : herdsmanref7_Ring_Put.call r key item w Q' := by
  refine CallK.mono ?_ h
  intro v w' h0
  unfold herdsmanref7_Ring_Put.qv at h0 ⊢
  obtain ⟨r, rfl, h1⟩ := dB_elim h0
  exact hq _ w' h1
/-! 16 (*herdsman/herdsmanref7.Ring).Pop -/
def herdsmanref7_Ring_Pop.qv (Q : Int → Int → Bool → World → Prop) (v : Value) (w : World) : Prop :=
  dT v fun r_l => dCons r_l fun r_v0 r_l0 => dI .i64 r_v0 fun r_0 => dCons r_l0 fun r_v1 r_l1 => dI .i64 r_v1 fun r_1 => dCons r_l1 fun r_v2 r_l2 => dB r_v2 fun r_2 => dNil r_l2 <| Q r_0 r_1 r_2 w
def herdsmanref7_Ring_Pop.call (r : Option Addr) (w : World) (Q : Int → Int → Bool → World → Prop) : Prop := CallK P 16 #[.pointer r] w (herdsmanref7_Ring_Pop.qv Q)
theorem herdsmanref7_Ring_Pop.mono {r : Option Addr} {w : World} {Q Q' : Int → Int → Bool → World → Prop} (hq : ∀ r r_1 r_2 w, Q r r_1 r_2 w → Q' r r_1 r_2 w) (h : herdsmanref7_Ring_Pop.call r w Q) : herdsmanref7_Ring_Pop.call r w Q' := by
  refine CallK.mono ?_ h
  intro v w' h0
  unfold herdsmanref7_Ring_Pop.qv at h0 ⊢
  obtain ⟨r_l, rfl, h1⟩ := dT_elim h0
  obtain ⟨r_v0, r_l0, rfl, h2⟩ := dCons_elim h1
  obtain ⟨r_0, rfl, h3⟩ := dI_elim h2
  obtain ⟨r_v1, r_l1, rfl, h4⟩ := dCons_elim h3
  obtain ⟨r_1, rfl, h5⟩ := dI_elim h4
  obtain ⟨r_v2, r_l2, rfl, h6⟩ := dCons_elim h5
  obtain ⟨r_2, rfl, h7⟩ := dB_elim h6
  obtain ⟨rfl, h8⟩ := dNil_elim h7
  exact hq _ _ _ w' h8
/-! 17 (*herdsman/ring.Ring).Jump -/
def ring_Ring_Jump.qv (Q : Bool → World → Prop) (v : Value) (w : World) : Prop :=
  dB v fun r => Q r w
def ring_Ring_Jump.call (r : Option Addr) (key : Int) (w : World) (Q : Bool → World → Prop) : Prop := CallK P 17 #[.pointer r, .int .i64 key] w (ring_Ring_Jump.qv Q)
theorem ring_Ring_Jump.mono {r : Option Addr} {key : Int} {w : World} {Q Q' : Bool → World → Prop} (hq : ∀ r w, Q r w → Q' r w) (h : ring_Ring_Jump.call r key w Q) : ring_Ring_Jump.call r key w Q' := by
  refine CallK.mono ?_ h
  intro v w' h0
  unfold ring_Ring_Jump.qv at h0 ⊢
  obtain ⟨r, rfl, h1⟩ := dB_elim h0
  exact hq _ w' h1
/-! 18 (*herdsman/herdsmanref7.Ring).Jump -/
def herdsmanref7_Ring_Jump.qv (Q : Bool → World → Prop) (v : Value) (w : World) : Prop :=
  dB v fun r => Q r w
def herdsmanref7_Ring_Jump.call (r : Option Addr) (key : Int) (w : World) (Q : Bool → World → Prop) : Prop := CallK P 18 #[.pointer r, .int .i64 key] w (herdsmanref7_Ring_Jump.qv Q)
theorem herdsmanref7_Ring_Jump.mono {r : Option Addr} {key : Int} {w : World} {Q Q' : Bool → World → Prop} (hq : ∀ r w, Q r w → Q' r w) (h : herdsmanref7_Ring_Jump.call r key w Q) : herdsmanref7_Ring_Jump.call r key w Q' := by
  refine CallK.mono ?_ h
  intro v w' h0
  unfold herdsmanref7_Ring_Jump.qv at h0 ⊢
  obtain ⟨r, rfl, h1⟩ := dB_elim h0
  exact hq _ w' h1
/-! 19 (*herdsman/ring.bucket).put -/
def ring_bucket_put.qv (Q : World → Prop) (v : Value) (w : World) : Prop :=
  dT v fun r_l => dNil r_l <| Q w
def ring_bucket_put.call (b : Option Addr) (item : Int) (w : World) (Q : World → Prop) : Prop := CallK P 19 #[.pointer b, .int .i64 item] w (ring_bucket_put.qv Q)
theorem ring_bucket_put.mono {b : Option Addr} {item : Int} {w : World} {Q Q' : World → Prop} (hq : ∀ w, Q w → Q' w) (h : ring_bucket_put.call b item w Q) : ring_bucket_put.call b item w Q' := by
  refine CallK.mono ?_ h
  intro v w' h0
  unfold ring_bucket_put.qv at h0 ⊢
  obtain ⟨r_l, rfl, h1⟩ := dT_elim h0
  obtain ⟨rfl, h2⟩ := dNil_elim h1
  exact hq w' h2
/-! 20 (*herdsman/ring.bucket).empty -/
def ring_bucket_empty.qv (Q : Bool → World → Prop) (v : Value) (w : World) : Prop :=
  dB v fun r => Q r w
def ring_bucket_empty.call (b : Option Addr) (w : World) (Q : Bool → World → Prop) : Prop := CallK P 20 #[.pointer b] w (ring_bucket_empty.qv Q)
theorem ring_bucket_empty.mono {b : Option Addr} {w : World} {Q Q' : Bool → World → Prop} (hq : ∀ r w, Q r w → Q' r w) (h : ring_bucket_empty.call b w Q) : ring_bucket_empty.call b w Q' := by
  refine CallK.mono ?_ h
  intro v w' h0
  unfold ring_bucket_empty.qv at h0 ⊢
  obtain ⟨r, rfl, h1⟩ := dB_elim h0
  exact hq _ w' h1
/-! 21 (*herdsman/ring.bucket).pop -/
def ring_bucket_pop.qv (Q : Int → World → Prop) (v : Value) (w : World) : Prop :=
  dI .i64 v fun r => Q r w
def ring_bucket_pop.call (b : Option Addr) (w : World) (Q : Int → World → Prop) : Prop := CallK P 21 #[.pointer b] w (ring_bucket_pop.qv Q)
theorem ring_bucket_pop.mono {b : Option Addr} {w : World} {Q Q' : Int → World → Prop} (hq : ∀ r w, Q r w → Q' r w) (h : ring_bucket_pop.call b w Q) : ring_bucket_pop.call b w Q' := by
  refine CallK.mono ?_ h
  intro v w' h0
  unfold ring_bucket_pop.qv at h0 ⊢
  obtain ⟨r, rfl, h1⟩ := dI_elim h0
  exact hq _ w' h1
end Go.Proofs.Ytfmhpmpfkmhgpaa.S
