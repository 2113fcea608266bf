/- What the functions ask: the types' table, the calls. Printed by a program of this work (sxgen.py) out of the translation. -/
import Derived.Test.YtjndgflalbcngaaProg
import Derived.Test.YtjndgflalbcngaaSxE
set_option linter.unusedVariables false
set_option linter.unusedSimpArgs false
namespace Go.Proofs.Ytjndgflalbcngaa.S
open Go.Sx
noncomputable abbrev P : Program := Go.Proofs.Try.prog
noncomputable def rows : List (Nat × TI) := [(3, ⟨.int .i64, 1, 8, [.int .i64 0], [.int .i64]⟩),
  (4, ⟨.bool, 1, 1, [.bool false], [.bool]⟩),
  (5, ⟨.int .u8, 1, 1, [.int .u8 0], [.int .u8]⟩),
  (9, ⟨.str, 1, 16, [.string .empty], [.str]⟩),
  (22, ⟨.slice 5, 1, 24, [.slice none 0 0], [.sl]⟩),
  (25, ⟨.slice 30, 1, 24, [.slice none 0 0], [.sl]⟩),
  (30, ⟨.struct [(0, 3), (1, 3), (2, 3), (3, 22)], 4, 48, [.int .i64 0, .int .i64 0, .int .i64 0, .slice none 0 0], [.int .i64, .int .i64, .int .i64, .sl]⟩),
  (33, ⟨.tup [22, 3], 1, 0, [.tuple #[.slice none 0 0, .int .i64 0]], []⟩),
  (35, ⟨.tup [22, 4], 1, 0, [.tuple #[.slice none 0 0, .bool false]], []⟩),
  (39, ⟨.slice 59, 1, 24, [.slice none 0 0], [.sl]⟩),
  (43, ⟨.tup [30, 3], 1, 0, [.tuple #[.agg #[.int .i64 0, .int .i64 0, .int .i64 0, .slice none 0 0], .int .i64 0]], []⟩),
  (47, ⟨.struct [(0, 3), (1, 3), (2, 4)], 3, 24, [.int .i64 0, .int .i64 0, .bool false], [.int .i64, .int .i64, .bool]⟩),
  (48, ⟨.tup [47, 4], 1, 0, [.tuple #[.agg #[.int .i64 0, .int .i64 0, .bool false], .bool false]], []⟩),
  (55, ⟨.struct [(0, 3), (1, 3), (2, 22)], 3, 40, [.int .i64 0, .int .i64 0, .slice none 0 0], [.int .i64, .int .i64, .sl]⟩),
  (59, ⟨.struct [(0, 3), (1, 3), (2, 3)], 3, 24, [.int .i64 0, .int .i64 0, .int .i64 0], [.int .i64, .int .i64, .int .i64]⟩),
  (67, ⟨.tup [3, 22], 1, 0, [.tuple #[.int .i64 0, .slice none 0 0]], []⟩),
  (69, ⟨.struct [(0, 3), (1, 3), (2, 22)], 3, 40, [.int .i64 0, .int .i64 0, .slice none 0 0], [.int .i64, .int .i64, .sl]⟩),
  (71, ⟨.tup [3, 3], 1, 0, [.tuple #[.int .i64 0, .int .i64 0]], []⟩)]
noncomputable def T : Tab := tabOf rows
noncomputable def fns : List Nat := [3, 4, 5, 6, 7, 8, 9, 10, 11, 12, 13, 14, 15, 16, 17, 18, 19, 20, 21, 22, 23, 24, 25, 26, 27, 28, 29, 30, 31, 32, 33, 34, 35, 36, 37, 38, 39, 40, 41, 42, 43, 44]
noncomputable def cx (n : Nat) : Cx := ⟨P, T, fun f => memN f fns, n⟩
theorem rows_ok : rows.map (fun p => viewTI P p.1) = rows.map (fun p => some (p.2.d, p.2.size, p.2.bytes, p.2.zero)) := by kernel_rfl
theorem fns_ok : fnsB P fns = true := by kernel_rfl
theorem mixed_ok : P.follows .mixedOrders = true := by kernel_rfl
theorem ok (n : Nat) : OkCx (cx n) := okCx_of rows_ok fns_ok mixed_ok n
/-! 3 herdsman/herdsmanlaw26.OpReads -/
def herdsmanlaw26_OpReads.qv (Q : Bool → World → Prop) (v : Value) (w : World) : Prop :=
  dB v fun r => Q r w
def herdsmanlaw26_OpReads.call (b_a : Option Addr) (b_n : Nat) (b_c : Nat) (raw : Bool) (w : World) (Q : Bool → World → Prop) : Prop := CallK P 3 #[.slice b_a b_n b_c, .bool raw] w (herdsmanlaw26_OpReads.qv Q)
theorem herdsmanlaw26_OpReads.mono {b_a : Option Addr} {b_n : Nat} {b_c : Nat} {raw : Bool} {w : World} {Q Q' : Bool → World → Prop} (hq : ∀ r w, Q r w → Q' r w) (h : herdsmanlaw26_OpReads.call b_a b_n b_c raw w Q) : herdsmanlaw26_OpReads.call b_a b_n b_c raw w Q' := by
  refine CallK.mono ?_ h
  intro v w' h0
  unfold herdsmanlaw26_OpReads.qv at h0 ⊢
  obtain ⟨r, rfl, h1⟩ := dB_elim h0
  exact hq _ w' h1
/-! 4 herdsman/herdsmanlaw26.OpAsks -/
def herdsmanlaw26_OpAsks.qv (Q : Bool → World → Prop) (v : Value) (w : World) : Prop :=
  dB v fun r => Q r w
def herdsmanlaw26_OpAsks.call (l_a : Option Addr) (l_n : Nat) (l_c : Nat) (raw : Bool) (w : World) (Q : Bool → World → Prop) : Prop := CallK P 4 #[.slice l_a l_n l_c, .bool raw] w (herdsmanlaw26_OpAsks.qv Q)
theorem herdsmanlaw26_OpAsks.mono {l_a : Option Addr} {l_n : Nat} {l_c : Nat} {raw : Bool} {w : World} {Q Q' : Bool → World → Prop} (hq : ∀ r w, Q r w → Q' r w) (h : herdsmanlaw26_OpAsks.call l_a l_n l_c raw w Q) : herdsmanlaw26_OpAsks.call l_a l_n l_c raw w Q' := by
  refine CallK.mono ?_ h
  intro v w' h0
  unfold herdsmanlaw26_OpAsks.qv at h0 ⊢
  obtain ⟨r, rfl, h1⟩ := dB_elim h0
  exact hq _ w' h1
/-! 5 herdsman/herdsmanlaw26.OpScripts -/
def herdsmanlaw26_OpScripts.qv (Q : Bool → World → Prop) (v : Value) (w : World) : Prop :=
  dB v fun r => Q r w
def herdsmanlaw26_OpScripts.call (b_a : Option Addr) (b_n : Nat) (b_c : Nat) (w : World) (Q : Bool → World → Prop) : Prop := CallK P 5 #[.slice b_a b_n b_c] w (herdsmanlaw26_OpScripts.qv Q)
theorem herdsmanlaw26_OpScripts.mono {b_a : Option Addr} {b_n : Nat} {b_c : Nat} {w : World} {Q Q' : Bool → World → Prop} (hq : ∀ r w, Q r w → Q' r w) (h : herdsmanlaw26_OpScripts.call b_a b_n b_c w Q) : herdsmanlaw26_OpScripts.call b_a b_n b_c w Q' := by
  refine CallK.mono ?_ h
  intro v w' h0
  unfold herdsmanlaw26_OpScripts.qv at h0 ⊢
  obtain ⟨r, rfl, h1⟩ := dB_elim h0
  exact hq _ w' h1
/-! 6 herdsman/herdsmanlaw26.OpBack -/
def herdsmanlaw26_OpBack.qv (Q : Bool → World → Prop) (v : Value) (w : World) : Prop :=
  dB v fun r => Q r w
def herdsmanlaw26_OpBack.call (w0_1 : Int) (h0 : Int) (c_a : Option Addr) (c_n : Nat) (c_c : Nat) (l_a : Option Addr) (l_n : Nat) (l_c : Nat) (cut : Int) (w : World) (Q : Bool → World → Prop) : Prop := CallK P 6 #[.int .i64 w0_1, .int .i64 h0, .slice c_a c_n c_c, .slice l_a l_n l_c, .int .i64 cut] w (herdsmanlaw26_OpBack.qv Q)
theorem herdsmanlaw26_OpBack.mono {w0_1 : Int} {h0 : Int} {c_a : Option Addr} {c_n : Nat} {c_c : Nat} {l_a : Option Addr} {l_n : Nat} {l_c : Nat} {cut : Int} {w : World} {Q Q' : Bool → World → Prop} (hq : ∀ r w, Q r w → Q' r w) (h : herdsmanlaw26_OpBack.call w0_1 h0 c_a c_n c_c l_a l_n l_c cut w Q) : herdsmanlaw26_OpBack.call w0_1 h0 c_a c_n c_c l_a l_n l_c cut w Q' := by
  refine CallK.mono ?_ h
  intro v w' h0
  unfold herdsmanlaw26_OpBack.qv at h0 ⊢
  obtain ⟨r, rfl, h1⟩ := dB_elim h0
  exact hq _ w' h1
/-! 7 herdsman/herdsmanlaw26.OpCuts -/
def herdsmanlaw26_OpCuts.qv (Q : Bool → World → Prop) (v : Value) (w : World) : Prop :=
  dB v fun r => Q r w
def herdsmanlaw26_OpCuts.call (w0_1 : Int) (h0 : Int) (c_a : Option Addr) (c_n : Nat) (c_c : Nat) (l_a : Option Addr) (l_n : Nat) (l_c : Nat) (cut : Int) (w : World) (Q : Bool → World → Prop) : Prop := CallK P 7 #[.int .i64 w0_1, .int .i64 h0, .slice c_a c_n c_c, .slice l_a l_n l_c, .int .i64 cut] w (herdsmanlaw26_OpCuts.qv Q)
theorem herdsmanlaw26_OpCuts.mono {w0_1 : Int} {h0 : Int} {c_a : Option Addr} {c_n : Nat} {c_c : Nat} {l_a : Option Addr} {l_n : Nat} {l_c : Nat} {cut : Int} {w : World} {Q Q' : Bool → World → Prop} (hq : ∀ r w, Q r w → Q' r w) (h : herdsmanlaw26_OpCuts.call w0_1 h0 c_a c_n c_c l_a l_n l_c cut w Q) : herdsmanlaw26_OpCuts.call w0_1 h0 c_a c_n c_c l_a l_n l_c cut w Q' := by
  refine CallK.mono ?_ h
  intro v w' h0
  unfold herdsmanlaw26_OpCuts.qv at h0 ⊢
  obtain ⟨r, rfl, h1⟩ := dB_elim h0
  exact hq _ w' h1
/-! 8 herdsman/herdsmanlaw26.told -/
def herdsmanlaw26_told.qv (Q : Bool → World → Prop) (v : Value) (w : World) : Prop :=
  dB v fun r => Q r w
def herdsmanlaw26_told.call (w : World) (Q : Bool → World → Prop) : Prop := CallK P 8 #[] w (herdsmanlaw26_told.qv Q)
theorem herdsmanlaw26_told.mono {w : World} {Q Q' : Bool → World → Prop} (hq : ∀ r w, Q r w → Q' r w) (h : herdsmanlaw26_told.call w Q) : herdsmanlaw26_told.call w Q' := by
  refine CallK.mono ?_ h
  intro v w' h0
  unfold herdsmanlaw26_told.qv at h0 ⊢
  obtain ⟨r, rfl, h1⟩ := dB_elim h0
  exact hq _ w' h1
/-! 9 herdsman/herdsmanref26.SameAll -/
def herdsmanref26_SameAll.qv (Q : Bool → World → Prop) (v : Value) (w : World) : Prop :=
  dB v fun r => Q r w
def herdsmanref26_SameAll.call (a_a : Option Addr) (a_n : Nat) (a_c : Nat) (b_a : Option Addr) (b_n : Nat) (b_c : Nat) (w : World) (Q : Bool → World → Prop) : Prop := CallK P 9 #[.slice a_a a_n a_c, .slice b_a b_n b_c] w (herdsmanref26_SameAll.qv Q)
theorem herdsmanref26_SameAll.mono {a_a : Option Addr} {a_n : Nat} {a_c : Nat} {b_a : Option Addr} {b_n : Nat} {b_c : Nat} {w : World} {Q Q' : Bool → World → Prop} (hq : ∀ r w, Q r w → Q' r w) (h : herdsmanref26_SameAll.call a_a a_n a_c b_a b_n b_c w Q) : herdsmanref26_SameAll.call a_a a_n a_c b_a b_n b_c w Q' := by
  refine CallK.mono ?_ h
  intro v w' h0
  unfold herdsmanref26_SameAll.qv at h0 ⊢
  obtain ⟨r, rfl, h1⟩ := dB_elim h0
  exact hq _ w' h1
/-! 10 herdsman/op.Decode -/
def op_Decode.qv (Q : Option Addr → Nat → Nat → World → Prop) (v : Value) (w : World) : Prop :=
  dS v fun r_a r_n r_c => Q r_a r_n r_c w
def op_Decode.call (b_a : Option Addr) (b_n : Nat) (b_c : Nat) (w : World) (Q : Option Addr → Nat → Nat → World → Prop) : Prop := CallK P 10 #[.slice b_a b_n b_c] w (op_Decode.qv Q)
theorem op_Decode.mono {b_a : Option Addr} {b_n : Nat} {b_c : Nat} {w : World} {Q Q' : Option Addr → Nat → Nat → World → Prop} (hq : ∀ r_a r_n r_c w, Q r_a r_n r_c w → Q' r_a r_n r_c w) (h : op_Decode.call b_a b_n b_c w Q) : op_Decode.call b_a b_n b_c w Q' := by
  refine CallK.mono ?_ h
  intro v w' h0
  unfold op_Decode.qv at h0 ⊢
  obtain ⟨r_a, r_n, r_c, rfl, h1⟩ := dS_elim h0
  exact hq _ _ _ w' h1
/-! 11 herdsman/herdsmanref26.Decode -/
def herdsmanref26_Decode.qv (Q : Option Addr → Nat → Nat → World → Prop) (v : Value) (w : World) : Prop :=
  dS v fun r_a r_n r_c => Q r_a r_n r_c w
def herdsmanref26_Decode.call (b_a : Option Addr) (b_n : Nat) (b_c : Nat) (w : World) (Q : Option Addr → Nat → Nat → World → Prop) : Prop := CallK P 11 #[.slice b_a b_n b_c] w (herdsmanref26_Decode.qv Q)
theorem herdsmanref26_Decode.mono {b_a : Option Addr} {b_n : Nat} {b_c : Nat} {w : World} {Q Q' : Option Addr → Nat → Nat → World → Prop} (hq : ∀ r_a r_n r_c w, Q r_a r_n r_c w → Q' r_a r_n r_c w) (h : herdsmanref26_Decode.call b_a b_n b_c w Q) : herdsmanref26_Decode.call b_a b_n b_c w Q' := by
  refine CallK.mono ?_ h
  intro v w' h0
  unfold herdsmanref26_Decode.qv at h0 ⊢
  obtain ⟨r_a, r_n, r_c, rfl, h1⟩ := dS_elim h0
  exact hq _ _ _ w' h1
/-! 12 herdsman/herdsmanref1.Bytes -/
def herdsmanref1_Bytes.qv (Q : Bool → World → Prop) (v : Value) (w : World) : Prop :=
  dB v fun r => Q r w
def herdsmanref1_Bytes.call (a_a : Option Addr) (a_n : Nat) (a_c : Nat) (b_a : Option Addr) (b_n : Nat) (b_c : Nat) (w : World) (Q : Bool → World → Prop) : Prop := CallK P 12 #[.slice a_a a_n a_c, .slice b_a b_n b_c] w (herdsmanref1_Bytes.qv Q)
theorem herdsmanref1_Bytes.mono {a_a : Option Addr} {a_n : Nat} {a_c : Nat} {b_a : Option Addr} {b_n : Nat} {b_c : Nat} {w : World} {Q Q' : Bool → World → Prop} (hq : ∀ r w, Q r w → Q' r w) (h : herdsmanref1_Bytes.call a_a a_n a_c b_a b_n b_c w Q) : herdsmanref1_Bytes.call a_a a_n a_c b_a b_n b_c w Q' := by
  refine CallK.mono ?_ h
  intro v w' h0
  unfold herdsmanref1_Bytes.qv at h0 ⊢
  obtain ⟨r, rfl, h1⟩ := dB_elim h0
  exact hq _ w' h1
/-! 13 herdsman/herdsmanref1.Within -/
def herdsmanref1_Within.qv (Q : Int → World → Prop) (v : Value) (w : World) : Prop :=
  dI .i64 v fun r => Q r w
def herdsmanref1_Within.call (n : Int) (lo : Int) (hi : Int) (w : World) (Q : Int → World → Prop) : Prop := CallK P 13 #[.int .i64 n, .int .i64 lo, .int .i64 hi] w (herdsmanref1_Within.qv Q)
theorem herdsmanref1_Within.mono {n : Int} {lo : Int} {hi : Int} {w : World} {Q Q' : Int → World → Prop} (hq : ∀ r w, Q r w → Q' r w) (h : herdsmanref1_Within.call n lo hi w Q) : herdsmanref1_Within.call n lo hi w Q' := by
  refine CallK.mono ?_ h
  intro v w' h0
  unfold herdsmanref1_Within.qv at h0 ⊢
  obtain ⟨r, rfl, h1⟩ := dI_elim h0
  exact hq _ w' h1
/-! 14 herdsman/op.May -/
def op_May.qv (Q : Bool → World → Prop) (v : Value) (w : World) : Prop :=
  dB v fun r => Q r w
def op_May.call (o_Kind : Int) (o_A : Int) (o_B : Int) (o_Map_a : Option Addr) (o_Map_n : Nat) (o_Map_c : Nat) (w : World) (Q : Bool → World → Prop) : Prop := CallK P 14 #[.agg #[.int .i64 o_Kind, .int .i64 o_A, .int .i64 o_B, .slice o_Map_a o_Map_n o_Map_c]] w (op_May.qv Q)
theorem op_May.mono {o_Kind : Int} {o_A : Int} {o_B : Int} {o_Map_a : Option Addr} {o_Map_n : Nat} {o_Map_c : Nat} {w : World} {Q Q' : Bool → World → Prop} (hq : ∀ r w, Q r w → Q' r w) (h : op_May.call o_Kind o_A o_B o_Map_a o_Map_n o_Map_c w Q) : op_May.call o_Kind o_A o_B o_Map_a o_Map_n o_Map_c w Q' := by
  refine CallK.mono ?_ h
  intro v w' h0
  unfold op_May.qv at h0 ⊢
  obtain ⟨r, rfl, h1⟩ := dB_elim h0
  exact hq _ w' h1
/-! 15 herdsman/herdsmanref26.May -/
def herdsmanref26_May.qv (Q : Bool → World → Prop) (v : Value) (w : World) : Prop :=
  dB v fun r => Q r w
def herdsmanref26_May.call (o_Kind : Int) (o_A : Int) (o_B : Int) (o_Map_a : Option Addr) (o_Map_n : Nat) (o_Map_c : Nat) (w : World) (Q : Bool → World → Prop) : Prop := CallK P 15 #[.agg #[.int .i64 o_Kind, .int .i64 o_A, .int .i64 o_B, .slice o_Map_a o_Map_n o_Map_c]] w (herdsmanref26_May.qv Q)
theorem herdsmanref26_May.mono {o_Kind : Int} {o_A : Int} {o_B : Int} {o_Map_a : Option Addr} {o_Map_n : Nat} {o_Map_c : Nat} {w : World} {Q Q' : Bool → World → Prop} (hq : ∀ r w, Q r w → Q' r w) (h : herdsmanref26_May.call o_Kind o_A o_B o_Map_a o_Map_n o_Map_c w Q) : herdsmanref26_May.call o_Kind o_A o_B o_Map_a o_Map_n o_Map_c w Q' := by
  refine CallK.mono ?_ h
  intro v w' h0
  unfold herdsmanref26_May.qv at h0 ⊢
  obtain ⟨r, rfl, h1⟩ := dB_elim h0
  exact hq _ w' h1
/-! 16 herdsman/op.Encode -/
def op_Encode.qv (Q : Option Addr → Nat → Nat → Int → World → Prop) (v : Value) (w : World) : Prop :=
  dT v fun r_l => dCons r_l fun r_v0 r_l0 => dS r_v0 fun r_0_a r_0_n r_0_c => dCons r_l0 fun r_v1 r_l1 => dI .i64 r_v1 fun r_1 => dNil r_l1 <| Q r_0_a r_0_n r_0_c r_1 w
def op_Encode.call (l_a : Option Addr) (l_n : Nat) (l_c : Nat) (w : World) (Q : Option Addr → Nat → Nat → Int → World → Prop) : Prop := CallK P 16 #[.slice l_a l_n l_c] w (op_Encode.qv Q)
theorem op_Encode.mono {l_a : Option Addr} {l_n : Nat} {l_c : Nat} {w : World} {Q Q' : Option Addr → Nat → Nat → Int → World → Prop} (hq : ∀ r_a r_n r_c r w, Q r_a r_n r_c r w → Q' r_a r_n r_c r w) (h : op_Encode.call l_a l_n l_c w Q) : op_Encode.call l_a l_n l_c w Q' := by
  refine CallK.mono ?_ h
  intro v w' h0
  unfold op_Encode.qv at h0 ⊢
  obtain ⟨r_l, rfl, h1⟩ := dT_elim h0
  obtain ⟨r_v0, r_l0, rfl, h2⟩ := dCons_elim h1
  obtain ⟨r_0_a, r_0_n, r_0_c, rfl, h3⟩ := dS_elim h2
  obtain ⟨r_v1, r_l1, rfl, h4⟩ := dCons_elim h3
  obtain ⟨r_1, rfl, h5⟩ := dI_elim h4
  obtain ⟨rfl, h6⟩ := dNil_elim h5
  exact hq _ _ _ _ w' h6
/-! 17 herdsman/herdsmanref26.Encode -/
def herdsmanref26_Encode.qv (Q : Option Addr → Nat → Nat → Bool → World → Prop) (v : Value) (w : World) : Prop :=
  dT v fun r_l => dCons r_l fun r_v0 r_l0 => dS r_v0 fun r_0_a r_0_n r_0_c => dCons r_l0 fun r_v1 r_l1 => dB r_v1 fun r_1 => dNil r_l1 <| Q r_0_a r_0_n r_0_c r_1 w
def herdsmanref26_Encode.call (l_a : Option Addr) (l_n : Nat) (l_c : Nat) (w : World) (Q : Option Addr → Nat → Nat → Bool → World → Prop) : Prop := CallK P 17 #[.slice l_a l_n l_c] w (herdsmanref26_Encode.qv Q)
theorem herdsmanref26_Encode.mono {l_a : Option Addr} {l_n : Nat} {l_c : Nat} {w : World} {Q Q' : Option Addr → Nat → Nat → Bool → World → Prop} (hq : ∀ r_a r_n r_c r w, Q r_a r_n r_c r w → Q' r_a r_n r_c r w) (h : herdsmanref26_Encode.call l_a l_n l_c w Q) : herdsmanref26_Encode.call l_a l_n l_c w Q' := by
  refine CallK.mono ?_ h
  intro v w' h0
  unfold herdsmanref26_Encode.qv at h0 ⊢
  obtain ⟨r_l, rfl, h1⟩ := dT_elim h0
  obtain ⟨r_v0, r_l0, rfl, h2⟩ := dCons_elim h1
  obtain ⟨r_0_a, r_0_n, r_0_c, rfl, h3⟩ := dS_elim h2
  obtain ⟨r_v1, r_l1, rfl, h4⟩ := dCons_elim h3
  obtain ⟨r_1, rfl, h5⟩ := dB_elim h4
  obtain ⟨rfl, h6⟩ := dNil_elim h5
  exact hq _ _ _ _ w' h6
/-! 18 herdsman/herdsmanref26.Made -/
def herdsmanref26_Made.qv (Q : Option Addr → Nat → Nat → World → Prop) (v : Value) (w : World) : Prop :=
  dS v fun r_a r_n r_c => Q r_a r_n r_c w
def herdsmanref26_Made.call (w0_1 : Int) (h0 : Int) (c_a : Option Addr) (c_n : Nat) (c_c : Nat) (l_a : Option Addr) (l_n : Nat) (l_c : Nat) (w : World) (Q : Option Addr → Nat → Nat → World → Prop) : Prop := CallK P 18 #[.int .i64 w0_1, .int .i64 h0, .slice c_a c_n c_c, .slice l_a l_n l_c] w (herdsmanref26_Made.qv Q)
theorem herdsmanref26_Made.mono {w0_1 : Int} {h0 : Int} {c_a : Option Addr} {c_n : Nat} {c_c : Nat} {l_a : Option Addr} {l_n : Nat} {l_c : Nat} {w : World} {Q Q' : Option Addr → Nat → Nat → World → Prop} (hq : ∀ r_a r_n r_c w, Q r_a r_n r_c w → Q' r_a r_n r_c w) (h : herdsmanref26_Made.call w0_1 h0 c_a c_n c_c l_a l_n l_c w Q) : herdsmanref26_Made.call w0_1 h0 c_a c_n c_c l_a l_n l_c w Q' := by
  refine CallK.mono ?_ h
  intro v w' h0
  unfold herdsmanref26_Made.qv at h0 ⊢
  obtain ⟨r_a, r_n, r_c, rfl, h1⟩ := dS_elim h0
  exact hq _ _ _ w' h1
/-! 19 herdsman/herdsmanref26.Same -/
def herdsmanref26_Same.qv (Q : Bool → World → Prop) (v : Value) (w : World) : Prop :=
  dB v fun r => Q r w
def herdsmanref26_Same.call (a_Kind : Int) (a_A : Int) (a_B : Int) (a_Map_a : Option Addr) (a_Map_n : Nat) (a_Map_c : Nat) (b_Kind : Int) (b_A : Int) (b_B : Int) (b_Map_a : Option Addr) (b_Map_n : Nat) (b_Map_c : Nat) (w : World) (Q : Bool → World → Prop) : Prop := CallK P 19 #[.agg #[.int .i64 a_Kind, .int .i64 a_A, .int .i64 a_B, .slice a_Map_a a_Map_n a_Map_c], .agg #[.int .i64 b_Kind, .int .i64 b_A, .int .i64 b_B, .slice b_Map_a b_Map_n b_Map_c]] w (herdsmanref26_Same.qv Q)
theorem herdsmanref26_Same.mono {a_Kind : Int} {a_A : Int} {a_B : Int} {a_Map_a : Option Addr} {a_Map_n : Nat} {a_Map_c : Nat} {b_Kind : Int} {b_A : Int} {b_B : Int} {b_Map_a : Option Addr} {b_Map_n : Nat} {b_Map_c : Nat} {w : World} {Q Q' : Bool → World → Prop} (hq : ∀ r w, Q r w → Q' r w) (h : herdsmanref26_Same.call a_Kind a_A a_B a_Map_a a_Map_n a_Map_c b_Kind b_A b_B b_Map_a b_Map_n b_Map_c w Q) : herdsmanref26_Same.call a_Kind a_A a_B a_Map_a a_Map_n a_Map_c b_Kind b_A b_B b_Map_a b_Map_n b_Map_c w Q' := by
  refine CallK.mono ?_ h
  intro v w' h0
  unfold herdsmanref26_Same.qv at h0 ⊢
  obtain ⟨r, rfl, h1⟩ := dB_elim h0
  exact hq _ w' h1
/-! 20 herdsman/op.read -/
def op_read.qv (Q : Int → Int → Int → Option Addr → Nat → Nat → Int → World → Prop) (v : Value) (w : World) : Prop :=
  dT v fun r_l => dCons r_l fun r_v0 r_l0 => dL r_v0 fun r_0_l => dCons r_0_l fun r_0_v0 r_0_l0 => dI .i64 r_0_v0 fun r_0_0 => dCons r_0_l0 fun r_0_v1 r_0_l1 => dI .i64 r_0_v1 fun r_0_1 => dCons r_0_l1 fun r_0_v2 r_0_l2 => dI .i64 r_0_v2 fun r_0_2 => dCons r_0_l2 fun r_0_v3 r_0_l3 => dS r_0_v3 fun r_0_3_a r_0_3_n r_0_3_c => dNil r_0_l3 <| dCons r_l0 fun r_v1 r_l1 => dI .i64 r_v1 fun r_1 => dNil r_l1 <| Q r_0_0 r_0_1 r_0_2 r_0_3_a r_0_3_n r_0_3_c r_1 w
def op_read.call (b_a : Option Addr) (b_n : Nat) (b_c : Nat) (w : World) (Q : Int → Int → Int → Option Addr → Nat → Nat → Int → World → Prop) : Prop := CallK P 20 #[.slice b_a b_n b_c] w (op_read.qv Q)
theorem op_read.mono {b_a : Option Addr} {b_n : Nat} {b_c : Nat} {w : World} {Q Q' : Int → Int → Int → Option Addr → Nat → Nat → Int → World → Prop} (hq : ∀ r_0 r_1 r_2 r_3_a r_3_n r_3_c r w, Q r_0 r_1 r_2 r_3_a r_3_n r_3_c r w → Q' r_0 r_1 r_2 r_3_a r_3_n r_3_c r w) (h : op_read.call b_a b_n b_c w Q) : op_read.call b_a b_n b_c w Q' := by
  refine CallK.mono ?_ h
  intro v w' h0
  unfold op_read.qv at h0 ⊢
  obtain ⟨r_l, rfl, h1⟩ := dT_elim h0
  obtain ⟨r_v0, r_l0, rfl, h2⟩ := dCons_elim h1
  obtain ⟨r_0_l, rfl, h3⟩ := dL_elim h2
  obtain ⟨r_0_v0, r_0_l0, rfl, h4⟩ := dCons_elim h3
  obtain ⟨r_0_0, rfl, h5⟩ := dI_elim h4
  obtain ⟨r_0_v1, r_0_l1, rfl, h6⟩ := dCons_elim h5
  obtain ⟨r_0_1, rfl, h7⟩ := dI_elim h6
  obtain ⟨r_0_v2, r_0_l2, rfl, h8⟩ := dCons_elim h7
  obtain ⟨r_0_2, rfl, h9⟩ := dI_elim h8
  obtain ⟨r_0_v3, r_0_l3, rfl, h10⟩ := dCons_elim h9
  obtain ⟨r_0_3_a, r_0_3_n, r_0_3_c, rfl, h11⟩ := dS_elim h10
  obtain ⟨rfl, h12⟩ := dNil_elim h11
  obtain ⟨r_v1, r_l1, rfl, h13⟩ := dCons_elim h12
  obtain ⟨r_1, rfl, h14⟩ := dI_elim h13
  obtain ⟨rfl, h15⟩ := dNil_elim h14
  exact hq _ _ _ _ _ _ _ w' h15
/-! 21 herdsman/herdsmanref26.long -/
def herdsmanref26_long.qv (Q : Int → World → Prop) (v : Value) (w : World) : Prop :=
  dI .i64 v fun r => Q r w
def herdsmanref26_long.call (b_a : Option Addr) (b_n : Nat) (b_c : Nat) (w : World) (Q : Int → World → Prop) : Prop := CallK P 21 #[.slice b_a b_n b_c] w (herdsmanref26_long.qv Q)
theorem herdsmanref26_long.mono {b_a : Option Addr} {b_n : Nat} {b_c : Nat} {w : World} {Q Q' : Int → World → Prop} (hq : ∀ r w, Q r w → Q' r w) (h : herdsmanref26_long.call b_a b_n b_c w Q) : herdsmanref26_long.call b_a b_n b_c w Q' := by
  refine CallK.mono ?_ h
  intro v w' h0
  unfold herdsmanref26_long.qv at h0 ⊢
  obtain ⟨r, rfl, h1⟩ := dI_elim h0
  exact hq _ w' h1
/-! 22 herdsman/herdsmanref26.number -/
def herdsmanref26_number.qv (Q : Int → World → Prop) (v : Value) (w : World) : Prop :=
  dI .i64 v fun r => Q r w
def herdsmanref26_number.call (b_a : Option Addr) (b_n : Nat) (b_c : Nat) (w : World) (Q : Int → World → Prop) : Prop := CallK P 22 #[.slice b_a b_n b_c] w (herdsmanref26_number.qv Q)
theorem herdsmanref26_number.mono {b_a : Option Addr} {b_n : Nat} {b_c : Nat} {w : World} {Q Q' : Int → World → Prop} (hq : ∀ r w, Q r w → Q' r w) (h : herdsmanref26_number.call b_a b_n b_c w Q) : herdsmanref26_number.call b_a b_n b_c w Q' := by
  refine CallK.mono ?_ h
  intro v w' h0
  unfold herdsmanref26_number.qv at h0 ⊢
  obtain ⟨r, rfl, h1⟩ := dI_elim h0
  exact hq _ w' h1
/-! 23 herdsman/op.cut -/
def op_cut.qv (Q : Bool → World → Prop) (v : Value) (w : World) : Prop :=
  dB v fun r => Q r w
def op_cut.call (b_a : Option Addr) (b_n : Nat) (b_c : Nat) (w : World) (Q : Bool → World → Prop) : Prop := CallK P 23 #[.slice b_a b_n b_c] w (op_cut.qv Q)
theorem op_cut.mono {b_a : Option Addr} {b_n : Nat} {b_c : Nat} {w : World} {Q Q' : Bool → World → Prop} (hq : ∀ r w, Q r w → Q' r w) (h : op_cut.call b_a b_n b_c w Q) : op_cut.call b_a b_n b_c w Q' := by
  refine CallK.mono ?_ h
  intro v w' h0
  unfold op_cut.qv at h0 ⊢
  obtain ⟨r, rfl, h1⟩ := dB_elim h0
  exact hq _ w' h1
/-! 24 herdsman/op.shaped -/
def op_shaped.qv (Q : Int → Int → Bool → Bool → World → Prop) (v : Value) (w : World) : Prop :=
  dT v fun r_l => dCons r_l fun r_v0 r_l0 => dL r_v0 fun r_0_l => dCons r_0_l fun r_0_v0 r_0_l0 => dI .i64 r_0_v0 fun r_0_0 => dCons r_0_l0 fun r_0_v1 r_0_l1 => dI .i64 r_0_v1 fun r_0_1 => dCons r_0_l1 fun r_0_v2 r_0_l2 => dB r_0_v2 fun r_0_2 => dNil r_0_l2 <| dCons r_l0 fun r_v1 r_l1 => dB r_v1 fun r_1 => dNil r_l1 <| Q r_0_0 r_0_1 r_0_2 r_1 w
def op_shaped.call (kind : Int) (w : World) (Q : Int → Int → Bool → Bool → World → Prop) : Prop := CallK P 24 #[.int .i64 kind] w (op_shaped.qv Q)
theorem op_shaped.mono {kind : Int} {w : World} {Q Q' : Int → Int → Bool → Bool → World → Prop} (hq : ∀ r_0 r_1 r_2 r w, Q r_0 r_1 r_2 r w → Q' r_0 r_1 r_2 r w) (h : op_shaped.call kind w Q) : op_shaped.call kind w Q' := by
  refine CallK.mono ?_ h
  intro v w' h0
  unfold op_shaped.qv at h0 ⊢
  obtain ⟨r_l, rfl, h1⟩ := dT_elim h0
  obtain ⟨r_v0, r_l0, rfl, h2⟩ := dCons_elim h1
  obtain ⟨r_0_l, rfl, h3⟩ := dL_elim h2
  obtain ⟨r_0_v0, r_0_l0, rfl, h4⟩ := dCons_elim h3
  obtain ⟨r_0_0, rfl, h5⟩ := dI_elim h4
  obtain ⟨r_0_v1, r_0_l1, rfl, h6⟩ := dCons_elim h5
  obtain ⟨r_0_1, rfl, h7⟩ := dI_elim h6
  obtain ⟨r_0_v2, r_0_l2, rfl, h8⟩ := dCons_elim h7
  obtain ⟨r_0_2, rfl, h9⟩ := dB_elim h8
  obtain ⟨rfl, h10⟩ := dNil_elim h9
  obtain ⟨r_v1, r_l1, rfl, h11⟩ := dCons_elim h10
  obtain ⟨r_1, rfl, h12⟩ := dB_elim h11
  obtain ⟨rfl, h13⟩ := dNil_elim h12
  exact hq _ _ _ _ w' h13
/-! 25 herdsman/op.fits -/
def op_fits.qv (Q : Bool → World → Prop) (v : Value) (w : World) : Prop :=
  dB v fun r => Q r w
def op_fits.call (n : Int) (size : Int) (w : World) (Q : Bool → World → Prop) : Prop := CallK P 25 #[.int .i64 n, .int .i64 size] w (op_fits.qv Q)
theorem op_fits.mono {n : Int} {size : Int} {w : World} {Q Q' : Bool → World → Prop} (hq : ∀ r w, Q r w → Q' r w) (h : op_fits.call n size w Q) : op_fits.call n size w Q' := by
  refine CallK.mono ?_ h
  intro v w' h0
  unfold op_fits.qv at h0 ⊢
  obtain ⟨r, rfl, h1⟩ := dB_elim h0
  exact hq _ w' h1
/-! 26 herdsman/herdsmanref1.In -/
def herdsmanref1_In.qv (Q : Bool → World → Prop) (v : Value) (w : World) : Prop :=
  dB v fun r => Q r w
def herdsmanref1_In.call (n : Int) (lo : Int) (hi : Int) (w : World) (Q : Bool → World → Prop) : Prop := CallK P 26 #[.int .i64 n, .int .i64 lo, .int .i64 hi] w (herdsmanref1_In.qv Q)
theorem herdsmanref1_In.mono {n : Int} {lo : Int} {hi : Int} {w : World} {Q Q' : Bool → World → Prop} (hq : ∀ r w, Q r w → Q' r w) (h : herdsmanref1_In.call n lo hi w Q) : herdsmanref1_In.call n lo hi w Q' := by
  refine CallK.mono ?_ h
  intro v w' h0
  unfold herdsmanref1_In.qv at h0 ⊢
  obtain ⟨r, rfl, h1⟩ := dB_elim h0
  exact hq _ w' h1
/-! 27 herdsman/op.write -/
def op_write.qv (Q : Option Addr → Nat → Nat → World → Prop) (v : Value) (w : World) : Prop :=
  dS v fun r_a r_n r_c => Q r_a r_n r_c w
def op_write.call (b_a : Option Addr) (b_n : Nat) (b_c : Nat) (o_Kind : Int) (o_A : Int) (o_B : Int) (o_Map_a : Option Addr) (o_Map_n : Nat) (o_Map_c : Nat) (w : World) (Q : Option Addr → Nat → Nat → World → Prop) : Prop := CallK P 27 #[.slice b_a b_n b_c, .agg #[.int .i64 o_Kind, .int .i64 o_A, .int .i64 o_B, .slice o_Map_a o_Map_n o_Map_c]] w (op_write.qv Q)
theorem op_write.mono {b_a : Option Addr} {b_n : Nat} {b_c : Nat} {o_Kind : Int} {o_A : Int} {o_B : Int} {o_Map_a : Option Addr} {o_Map_n : Nat} {o_Map_c : Nat} {w : World} {Q Q' : Option Addr → Nat → Nat → World → Prop} (hq : ∀ r_a r_n r_c w, Q r_a r_n r_c w → Q' r_a r_n r_c w) (h : op_write.call b_a b_n b_c o_Kind o_A o_B o_Map_a o_Map_n o_Map_c w Q) : op_write.call b_a b_n b_c o_Kind o_A o_B o_Map_a o_Map_n o_Map_c w Q' := by
  refine CallK.mono ?_ h
  intro v w' h0
  unfold op_write.qv at h0 ⊢
  obtain ⟨r_a, r_n, r_c, rfl, h1⟩ := dS_elim h0
  exact hq _ _ _ w' h1
/-! 28 herdsman/herdsmanref26.Bytes -/
def herdsmanref26_Bytes.qv (Q : Option Addr → Nat → Nat → World → Prop) (v : Value) (w : World) : Prop :=
  dS v fun r_a r_n r_c => Q r_a r_n r_c w
def herdsmanref26_Bytes.call (o_Kind : Int) (o_A : Int) (o_B : Int) (o_Map_a : Option Addr) (o_Map_n : Nat) (o_Map_c : Nat) (w : World) (Q : Option Addr → Nat → Nat → World → Prop) : Prop := CallK P 28 #[.agg #[.int .i64 o_Kind, .int .i64 o_A, .int .i64 o_B, .slice o_Map_a o_Map_n o_Map_c]] w (herdsmanref26_Bytes.qv Q)
theorem herdsmanref26_Bytes.mono {o_Kind : Int} {o_A : Int} {o_B : Int} {o_Map_a : Option Addr} {o_Map_n : Nat} {o_Map_c : Nat} {w : World} {Q Q' : Option Addr → Nat → Nat → World → Prop} (hq : ∀ r_a r_n r_c w, Q r_a r_n r_c w → Q' r_a r_n r_c w) (h : herdsmanref26_Bytes.call o_Kind o_A o_B o_Map_a o_Map_n o_Map_c w Q) : herdsmanref26_Bytes.call o_Kind o_A o_B o_Map_a o_Map_n o_Map_c w Q' := by
  refine CallK.mono ?_ h
  intro v w' h0
  unfold herdsmanref26_Bytes.qv at h0 ⊢
  obtain ⟨r_a, r_n, r_c, rfl, h1⟩ := dS_elim h0
  exact hq _ _ _ w' h1
/-! 29 herdsman/herdsmanref1.Made -/
def herdsmanref1_Made.qv (Q : Int → Int → Option Addr → Nat → Nat → World → Prop) (v : Value) (w : World) : Prop :=
  dL v fun r_l => dCons r_l fun r_v0 r_l0 => dI .i64 r_v0 fun r_0 => dCons r_l0 fun r_v1 r_l1 => dI .i64 r_v1 fun r_1 => dCons r_l1 fun r_v2 r_l2 => dS r_v2 fun r_2_a r_2_n r_2_c => dNil r_l2 <| Q r_0 r_1 r_2_a r_2_n r_2_c w
def herdsmanref1_Made.call (w0_1 : Int) (h0 : Int) (c_a : Option Addr) (c_n : Nat) (c_c : Nat) (w : World) (Q : Int → Int → Option Addr → Nat → Nat → World → Prop) : Prop := CallK P 29 #[.int .i64 w0_1, .int .i64 h0, .slice c_a c_n c_c] w (herdsmanref1_Made.qv Q)
theorem herdsmanref1_Made.mono {w0_1 : Int} {h0 : Int} {c_a : Option Addr} {c_n : Nat} {c_c : Nat} {w : World} {Q Q' : Int → Int → Option Addr → Nat → Nat → World → Prop} (hq : ∀ r_0 r_1 r_2_a r_2_n r_2_c w, Q r_0 r_1 r_2_a r_2_n r_2_c w → Q' r_0 r_1 r_2_a r_2_n r_2_c w) (h : herdsmanref1_Made.call w0_1 h0 c_a c_n c_c w Q) : herdsmanref1_Made.call w0_1 h0 c_a c_n c_c w Q' := by
  refine CallK.mono ?_ h
  intro v w' h0
  unfold herdsmanref1_Made.qv at h0 ⊢
  obtain ⟨r_l, rfl, h1⟩ := dL_elim h0
  obtain ⟨r_v0, r_l0, rfl, h2⟩ := dCons_elim h1
  obtain ⟨r_0, rfl, h3⟩ := dI_elim h2
  obtain ⟨r_v1, r_l1, rfl, h4⟩ := dCons_elim h3
  obtain ⟨r_1, rfl, h5⟩ := dI_elim h4
  obtain ⟨r_v2, r_l2, rfl, h6⟩ := dCons_elim h5
  obtain ⟨r_2_a, r_2_n, r_2_c, rfl, h7⟩ := dS_elim h6
  obtain ⟨rfl, h8⟩ := dNil_elim h7
  exact hq _ _ _ _ _ w' h8
/-! 30 herdsman/herdsmanref1.PutMap -/
def herdsmanref1_PutMap.qv (Q : Option Addr → Nat → Nat → World → Prop) (v : Value) (w : World) : Prop :=
  dS v fun r_a r_n r_c => Q r_a r_n r_c w
def herdsmanref1_PutMap.call (m_W : Int) (m_H : Int) (m_C_a : Option Addr) (m_C_n : Nat) (m_C_c : Nat) (w : World) (Q : Option Addr → Nat → Nat → World → Prop) : Prop := CallK P 30 #[.agg #[.int .i64 m_W, .int .i64 m_H, .slice m_C_a m_C_n m_C_c]] w (herdsmanref1_PutMap.qv Q)
theorem herdsmanref1_PutMap.mono {m_W : Int} {m_H : Int} {m_C_a : Option Addr} {m_C_n : Nat} {m_C_c : Nat} {w : World} {Q Q' : Option Addr → Nat → Nat → World → Prop} (hq : ∀ r_a r_n r_c w, Q r_a r_n r_c w → Q' r_a r_n r_c w) (h : herdsmanref1_PutMap.call m_W m_H m_C_a m_C_n m_C_c w Q) : herdsmanref1_PutMap.call m_W m_H m_C_a m_C_n m_C_c w Q' := by
  refine CallK.mono ?_ h
  intro v w' h0
  unfold herdsmanref1_PutMap.qv at h0 ⊢
  obtain ⟨r_a, r_n, r_c, rfl, h1⟩ := dS_elim h0
  exact hq _ _ _ w' h1
/-! 31 herdsman/herdsmanref1.Cost -/
def herdsmanref1_Cost.qv (Q : Int → World → Prop) (v : Value) (w : World) : Prop :=
  dI .u8 v fun r => Q r w
def herdsmanref1_Cost.call (x : Int) (w : World) (Q : Int → World → Prop) : Prop := CallK P 31 #[.int .u8 x] w (herdsmanref1_Cost.qv Q)
theorem herdsmanref1_Cost.mono {x : Int} {w : World} {Q Q' : Int → World → Prop} (hq : ∀ r w, Q r w → Q' r w) (h : herdsmanref1_Cost.call x w Q) : herdsmanref1_Cost.call x w Q' := by
  refine CallK.mono ?_ h
  intro v w' h0
  unfold herdsmanref1_Cost.qv at h0 ⊢
  obtain ⟨r, rfl, h1⟩ := dI_elim h0
  exact hq _ w' h1
/-! 32 herdsman/herdsmanref26.Odd -/
def herdsmanref26_Odd.qv (Q : Int → Int → Int → Option Addr → Nat → Nat → World → Prop) (v : Value) (w : World) : Prop :=
  dL v fun r_l => dCons r_l fun r_v0 r_l0 => dI .i64 r_v0 fun r_0 => dCons r_l0 fun r_v1 r_l1 => dI .i64 r_v1 fun r_1 => dCons r_l1 fun r_v2 r_l2 => dI .i64 r_v2 fun r_2 => dCons r_l2 fun r_v3 r_l3 => dS r_v3 fun r_3_a r_3_n r_3_c => dNil r_l3 <| Q r_0 r_1 r_2 r_3_a r_3_n r_3_c w
def herdsmanref26_Odd.call (x_Kind : Int) (x_A : Int) (x_B : Int) (n : Int) (w : World) (Q : Int → Int → Int → Option Addr → Nat → Nat → World → Prop) : Prop := CallK P 32 #[.agg #[.int .i64 x_Kind, .int .i64 x_A, .int .i64 x_B], .int .i64 n] w (herdsmanref26_Odd.qv Q)
theorem herdsmanref26_Odd.mono {x_Kind : Int} {x_A : Int} {x_B : Int} {n : Int} {w : World} {Q Q' : Int → Int → Int → Option Addr → Nat → Nat → World → Prop} (hq : ∀ r_0 r_1 r_2 r_3_a r_3_n r_3_c w, Q r_0 r_1 r_2 r_3_a r_3_n r_3_c w → Q' r_0 r_1 r_2 r_3_a r_3_n r_3_c w) (h : herdsmanref26_Odd.call x_Kind x_A x_B n w Q) : herdsmanref26_Odd.call x_Kind x_A x_B n w Q' := by
  refine CallK.mono ?_ h
  intro v w' h0
  unfold herdsmanref26_Odd.qv at h0 ⊢
  obtain ⟨r_l, rfl, h1⟩ := dL_elim h0
  obtain ⟨r_v0, r_l0, rfl, h2⟩ := dCons_elim h1
  obtain ⟨r_0, rfl, h3⟩ := dI_elim h2
  obtain ⟨r_v1, r_l1, rfl, h4⟩ := dCons_elim h3
  obtain ⟨r_1, rfl, h5⟩ := dI_elim h4
  obtain ⟨r_v2, r_l2, rfl, h6⟩ := dCons_elim h5
  obtain ⟨r_2, rfl, h7⟩ := dI_elim h6
  obtain ⟨r_v3, r_l3, rfl, h8⟩ := dCons_elim h7
  obtain ⟨r_3_a, r_3_n, r_3_c, rfl, h9⟩ := dS_elim h8
  obtain ⟨rfl, h10⟩ := dNil_elim h9
  exact hq _ _ _ _ _ _ w' h10
/-! 33 herdsman/op.number -/
def op_number.qv (Q : Int → World → Prop) (v : Value) (w : World) : Prop :=
  dI .i64 v fun r => Q r w
def op_number.call (b_a : Option Addr) (b_n : Nat) (b_c : Nat) (w : World) (Q : Int → World → Prop) : Prop := CallK P 33 #[.slice b_a b_n b_c] w (op_number.qv Q)
theorem op_number.mono {b_a : Option Addr} {b_n : Nat} {b_c : Nat} {w : World} {Q Q' : Int → World → Prop} (hq : ∀ r w, Q r w → Q' r w) (h : op_number.call b_a b_n b_c w Q) : op_number.call b_a b_n b_c w Q' := by
  refine CallK.mono ?_ h
  intro v w' h0
  unfold op_number.qv at h0 ⊢
  obtain ⟨r, rfl, h1⟩ := dI_elim h0
  exact hq _ w' h1
/-! 34 herdsman/herdsmanref26.asks -/
def herdsmanref26_asks.qv (Q : Int → World → Prop) (v : Value) (w : World) : Prop :=
  dI .i64 v fun r => Q r w
def herdsmanref26_asks.call (kind : Int) (w : World) (Q : Int → World → Prop) : Prop := CallK P 34 #[.int .i64 kind] w (herdsmanref26_asks.qv Q)
theorem herdsmanref26_asks.mono {kind : Int} {w : World} {Q Q' : Int → World → Prop} (hq : ∀ r w, Q r w → Q' r w) (h : herdsmanref26_asks.call kind w Q) : herdsmanref26_asks.call kind w Q' := by
  refine CallK.mono ?_ h
  intro v w' h0
  unfold herdsmanref26_asks.qv at h0 ⊢
  obtain ⟨r, rfl, h1⟩ := dI_elim h0
  exact hq _ w' h1
/-! 35 herdsman/op.put -/
def op_put.qv (Q : Option Addr → Nat → Nat → World → Prop) (v : Value) (w : World) : Prop :=
  dS v fun r_a r_n r_c => Q r_a r_n r_c w
def op_put.call (b_a : Option Addr) (b_n : Nat) (b_c : Nat) (n : Int) (size : Int) (w : World) (Q : Option Addr → Nat → Nat → World → Prop) : Prop := CallK P 35 #[.slice b_a b_n b_c, .int .i64 n, .int .i64 size] w (op_put.qv Q)
theorem op_put.mono {b_a : Option Addr} {b_n : Nat} {b_c : Nat} {n : Int} {size : Int} {w : World} {Q Q' : Option Addr → Nat → Nat → World → Prop} (hq : ∀ r_a r_n r_c w, Q r_a r_n r_c w → Q' r_a r_n r_c w) (h : op_put.call b_a b_n b_c n size w Q) : op_put.call b_a b_n b_c n size w Q' := by
  refine CallK.mono ?_ h
  intro v w' h0
  unfold op_put.qv at h0 ⊢
  obtain ⟨r_a, r_n, r_c, rfl, h1⟩ := dS_elim h0
  exact hq _ _ _ w' h1
/-! 36 herdsman/herdsmanref26.four -/
def herdsmanref26_four.qv (Q : Option Addr → Nat → Nat → World → Prop) (v : Value) (w : World) : Prop :=
  dS v fun r_a r_n r_c => Q r_a r_n r_c w
def herdsmanref26_four.call (n : Int) (w : World) (Q : Option Addr → Nat → Nat → World → Prop) : Prop := CallK P 36 #[.int .i64 n] w (herdsmanref26_four.qv Q)
theorem herdsmanref26_four.mono {n : Int} {w : World} {Q Q' : Option Addr → Nat → Nat → World → Prop} (hq : ∀ r_a r_n r_c w, Q r_a r_n r_c w → Q' r_a r_n r_c w) (h : herdsmanref26_four.call n w Q) : herdsmanref26_four.call n w Q' := by
  refine CallK.mono ?_ h
  intro v w' h0
  unfold herdsmanref26_four.qv at h0 ⊢
  obtain ⟨r_a, r_n, r_c, rfl, h1⟩ := dS_elim h0
  exact hq _ _ _ w' h1
/-! 37 herdsman/herdsmanref1.Count -/
def herdsmanref1_Count.qv (Q : Int → World → Prop) (v : Value) (w : World) : Prop :=
  dI .i64 v fun r => Q r w
def herdsmanref1_Count.call (w0_1 : Int) (h0 : Int) (w : World) (Q : Int → World → Prop) : Prop := CallK P 37 #[.int .i64 w0_1, .int .i64 h0] w (herdsmanref1_Count.qv Q)
theorem herdsmanref1_Count.mono {w0_1 : Int} {h0 : Int} {w : World} {Q Q' : Int → World → Prop} (hq : ∀ r w, Q r w → Q' r w) (h : herdsmanref1_Count.call w0_1 h0 w Q) : herdsmanref1_Count.call w0_1 h0 w Q' := by
  refine CallK.mono ?_ h
  intro v w' h0
  unfold herdsmanref1_Count.qv at h0 ⊢
  obtain ⟨r, rfl, h1⟩ := dI_elim h0
  exact hq _ w' h1
/-! 38 herdsman/herdsmanref1.PutTile -/
def herdsmanref1_PutTile.qv (Q : Int → Option Addr → Nat → Nat → World → Prop) (v : Value) (w : World) : Prop :=
  dT v fun r_l => dCons r_l fun r_v0 r_l0 => dI .i64 r_v0 fun r_0 => dCons r_l0 fun r_v1 r_l1 => dS r_v1 fun r_1_a r_1_n r_1_c => dNil r_l1 <| Q r_0 r_1_a r_1_n r_1_c w
def herdsmanref1_PutTile.call (t_W : Int) (t_H : Int) (t_C_a : Option Addr) (t_C_n : Nat) (t_C_c : Nat) (w : World) (Q : Int → Option Addr → Nat → Nat → World → Prop) : Prop := CallK P 38 #[.agg #[.int .i64 t_W, .int .i64 t_H, .slice t_C_a t_C_n t_C_c]] w (herdsmanref1_PutTile.qv Q)
theorem herdsmanref1_PutTile.mono {t_W : Int} {t_H : Int} {t_C_a : Option Addr} {t_C_n : Nat} {t_C_c : Nat} {w : World} {Q Q' : Int → Option Addr → Nat → Nat → World → Prop} (hq : ∀ r r_a r_n r_c w, Q r r_a r_n r_c w → Q' r r_a r_n r_c w) (h : herdsmanref1_PutTile.call t_W t_H t_C_a t_C_n t_C_c w Q) : herdsmanref1_PutTile.call t_W t_H t_C_a t_C_n t_C_c w Q' := by
  refine CallK.mono ?_ h
  intro v w' h0
  unfold herdsmanref1_PutTile.qv at h0 ⊢
  obtain ⟨r_l, rfl, h1⟩ := dT_elim h0
  obtain ⟨r_v0, r_l0, rfl, h2⟩ := dCons_elim h1
  obtain ⟨r_0, rfl, h3⟩ := dI_elim h2
  obtain ⟨r_v1, r_l1, rfl, h4⟩ := dCons_elim h3
  obtain ⟨r_1_a, r_1_n, r_1_c, rfl, h5⟩ := dS_elim h4
  obtain ⟨rfl, h6⟩ := dNil_elim h5
  exact hq _ _ _ _ w' h6
/-! 39 herdsman/herdsmanref1.TileOf -/
def herdsmanref1_TileOf.qv (Q : Int → Int → Option Addr → Nat → Nat → World → Prop) (v : Value) (w : World) : Prop :=
  dL v fun r_l => dCons r_l fun r_v0 r_l0 => dI .i64 r_v0 fun r_0 => dCons r_l0 fun r_v1 r_l1 => dI .i64 r_v1 fun r_1 => dCons r_l1 fun r_v2 r_l2 => dS r_v2 fun r_2_a r_2_n r_2_c => dNil r_l2 <| Q r_0 r_1 r_2_a r_2_n r_2_c w
def herdsmanref1_TileOf.call (m_W : Int) (m_H : Int) (m_C_a : Option Addr) (m_C_n : Nat) (m_C_c : Nat) (s0 : Int) (w : World) (Q : Int → Int → Option Addr → Nat → Nat → World → Prop) : Prop := CallK P 39 #[.agg #[.int .i64 m_W, .int .i64 m_H, .slice m_C_a m_C_n m_C_c], .int .i64 s0] w (herdsmanref1_TileOf.qv Q)
theorem herdsmanref1_TileOf.mono {m_W : Int} {m_H : Int} {m_C_a : Option Addr} {m_C_n : Nat} {m_C_c : Nat} {s0 : Int} {w : World} {Q Q' : Int → Int → Option Addr → Nat → Nat → World → Prop} (hq : ∀ r_0 r_1 r_2_a r_2_n r_2_c w, Q r_0 r_1 r_2_a r_2_n r_2_c w → Q' r_0 r_1 r_2_a r_2_n r_2_c w) (h : herdsmanref1_TileOf.call m_W m_H m_C_a m_C_n m_C_c s0 w Q) : herdsmanref1_TileOf.call m_W m_H m_C_a m_C_n m_C_c s0 w Q' := by
  refine CallK.mono ?_ h
  intro v w' h0
  unfold herdsmanref1_TileOf.qv at h0 ⊢
  obtain ⟨r_l, rfl, h1⟩ := dL_elim h0
  obtain ⟨r_v0, r_l0, rfl, h2⟩ := dCons_elim h1
  obtain ⟨r_0, rfl, h3⟩ := dI_elim h2
  obtain ⟨r_v1, r_l1, rfl, h4⟩ := dCons_elim h3
  obtain ⟨r_1, rfl, h5⟩ := dI_elim h4
  obtain ⟨r_v2, r_l2, rfl, h6⟩ := dCons_elim h5
  obtain ⟨r_2_a, r_2_n, r_2_c, rfl, h7⟩ := dS_elim h6
  obtain ⟨rfl, h8⟩ := dNil_elim h7
  exact hq _ _ _ _ _ w' h8
/-! 40 herdsman/herdsmanref1.Sectors -/
def herdsmanref1_Sectors.qv (Q : Int → Int → World → Prop) (v : Value) (w : World) : Prop :=
  dT v fun r_l => dCons r_l fun r_v0 r_l0 => dI .i64 r_v0 fun r_0 => dCons r_l0 fun r_v1 r_l1 => dI .i64 r_v1 fun r_1 => dNil r_l1 <| Q r_0 r_1 w
def herdsmanref1_Sectors.call (w0_1 : Int) (h0 : Int) (w : World) (Q : Int → Int → World → Prop) : Prop := CallK P 40 #[.int .i64 w0_1, .int .i64 h0] w (herdsmanref1_Sectors.qv Q)
theorem herdsmanref1_Sectors.mono {w0_1 : Int} {h0 : Int} {w : World} {Q Q' : Int → Int → World → Prop} (hq : ∀ r r_1 w, Q r r_1 w → Q' r r_1 w) (h : herdsmanref1_Sectors.call w0_1 h0 w Q) : herdsmanref1_Sectors.call w0_1 h0 w Q' := by
  refine CallK.mono ?_ h
  intro v w' h0
  unfold herdsmanref1_Sectors.qv at h0 ⊢
  obtain ⟨r_l, rfl, h1⟩ := dT_elim h0
  obtain ⟨r_v0, r_l0, rfl, h2⟩ := dCons_elim h1
  obtain ⟨r_0, rfl, h3⟩ := dI_elim h2
  obtain ⟨r_v1, r_l1, rfl, h4⟩ := dCons_elim h3
  obtain ⟨r_1, rfl, h5⟩ := dI_elim h4
  obtain ⟨rfl, h6⟩ := dNil_elim h5
  exact hq _ _ w' h6
/-! 41 herdsman/herdsmanref1.runs -/
def herdsmanref1_runs.qv (Q : Option Addr → Nat → Nat → World → Prop) (v : Value) (w : World) : Prop :=
  dS v fun r_a r_n r_c => Q r_a r_n r_c w
def herdsmanref1_runs.call (c_a : Option Addr) (c_n : Nat) (c_c : Nat) (w : World) (Q : Option Addr → Nat → Nat → World → Prop) : Prop := CallK P 41 #[.slice c_a c_n c_c] w (herdsmanref1_runs.qv Q)
theorem herdsmanref1_runs.mono {c_a : Option Addr} {c_n : Nat} {c_c : Nat} {w : World} {Q Q' : Option Addr → Nat → Nat → World → Prop} (hq : ∀ r_a r_n r_c w, Q r_a r_n r_c w → Q' r_a r_n r_c w) (h : herdsmanref1_runs.call c_a c_n c_c w Q) : herdsmanref1_runs.call c_a c_n c_c w Q' := by
  refine CallK.mono ?_ h
  intro v w' h0
  unfold herdsmanref1_runs.qv at h0 ⊢
  obtain ⟨r_a, r_n, r_c, rfl, h1⟩ := dS_elim h0
  exact hq _ _ _ w' h1
/-! 42 herdsman/herdsmanref1.Size -/
def herdsmanref1_Size.qv (Q : Int → Int → World → Prop) (v : Value) (w : World) : Prop :=
  dT v fun r_l => dCons r_l fun r_v0 r_l0 => dI .i64 r_v0 fun r_0 => dCons r_l0 fun r_v1 r_l1 => dI .i64 r_v1 fun r_1 => dNil r_l1 <| Q r_0 r_1 w
def herdsmanref1_Size.call (w0_1 : Int) (h0 : Int) (s0 : Int) (w : World) (Q : Int → Int → World → Prop) : Prop := CallK P 42 #[.int .i64 w0_1, .int .i64 h0, .int .i64 s0] w (herdsmanref1_Size.qv Q)
theorem herdsmanref1_Size.mono {w0_1 : Int} {h0 : Int} {s0 : Int} {w : World} {Q Q' : Int → Int → World → Prop} (hq : ∀ r r_1 w, Q r r_1 w → Q' r r_1 w) (h : herdsmanref1_Size.call w0_1 h0 s0 w Q) : herdsmanref1_Size.call w0_1 h0 s0 w Q' := by
  refine CallK.mono ?_ h
  intro v w' h0
  unfold herdsmanref1_Size.qv at h0 ⊢
  obtain ⟨r_l, rfl, h1⟩ := dT_elim h0
  obtain ⟨r_v0, r_l0, rfl, h2⟩ := dCons_elim h1
  obtain ⟨r_0, rfl, h3⟩ := dI_elim h2
  obtain ⟨r_v1, r_l1, rfl, h4⟩ := dCons_elim h3
  obtain ⟨r_1, rfl, h5⟩ := dI_elim h4
  obtain ⟨rfl, h6⟩ := dNil_elim h5
  exact hq _ _ w' h6
/-! 43 herdsman/herdsmanref1.Global -/
def herdsmanref1_Global.qv (Q : Int → World → Prop) (v : Value) (w : World) : Prop :=
  dI .i64 v fun r => Q r w
def herdsmanref1_Global.call (w0_1 : Int) (h0 : Int) (s0 : Int) (l : Int) (w : World) (Q : Int → World → Prop) : Prop := CallK P 43 #[.int .i64 w0_1, .int .i64 h0, .int .i64 s0, .int .i64 l] w (herdsmanref1_Global.qv Q)
theorem herdsmanref1_Global.mono {w0_1 : Int} {h0 : Int} {s0 : Int} {l : Int} {w : World} {Q Q' : Int → World → Prop} (hq : ∀ r w, Q r w → Q' r w) (h : herdsmanref1_Global.call w0_1 h0 s0 l w Q) : herdsmanref1_Global.call w0_1 h0 s0 l w Q' := by
  refine CallK.mono ?_ h
  intro v w' h0
  unfold herdsmanref1_Global.qv at h0 ⊢
  obtain ⟨r, rfl, h1⟩ := dI_elim h0
  exact hq _ w' h1
/-! 44 herdsman/herdsmanref1.May -/
def herdsmanref1_May.qv (Q : Bool → World → Prop) (v : Value) (w : World) : Prop :=
  dB v fun r => Q r w
def herdsmanref1_May.call (w0_1 : Int) (h0 : Int) (w : World) (Q : Bool → World → Prop) : Prop := CallK P 44 #[.int .i64 w0_1, .int .i64 h0] w (herdsmanref1_May.qv Q)
theorem herdsmanref1_May.mono {w0_1 : Int} {h0 : Int} {w : World} {Q Q' : Bool → World → Prop} (hq : ∀ r w, Q r w → Q' r w) (h : herdsmanref1_May.call w0_1 h0 w Q) : herdsmanref1_May.call w0_1 h0 w Q' := by
  refine CallK.mono ?_ h
  intro v w' h0
  unfold herdsmanref1_May.qv at h0 ⊢
  obtain ⟨r, rfl, h1⟩ := dB_elim h0
  exact hq _ w' h1
end Go.Proofs.Ytjndgflalbcngaa.S
