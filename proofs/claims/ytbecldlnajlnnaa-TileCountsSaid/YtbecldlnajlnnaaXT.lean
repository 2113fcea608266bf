/- What the functions ask: the types' table, the calls. Printed by a program of this work (sxgen.py) out of the translation. -/
import Derived.Test.YtbecldlnajlnnaaProg
import Derived.Test.YtbecldlnajlnnaaSxE
set_option linter.unusedVariables false
set_option linter.unusedSimpArgs false
namespace Go.Proofs.Ytbecldlnajlnnaa.S
open Go.Sx
noncomputable abbrev P : Program := Go.Proofs.Try.prog
noncomputable def rows : List (Nat × TI) := [(3, ⟨.int .i64, 1, 8, [.int .i64 0], [.int .i64]⟩),
  (4, ⟨.bool, 1, 1, [.bool false], [.bool]⟩),
  (5, ⟨.int .u8, 1, 1, [.int .u8 0], [.int .u8]⟩),
  (9, ⟨.str, 1, 16, [.string .empty], [.str]⟩),
  (22, ⟨.slice 5, 1, 24, [.slice none 0 0], [.sl]⟩),
  (24, ⟨.struct [(0, 3), (1, 3), (2, 22)], 3, 40, [.int .i64 0, .int .i64 0, .slice none 0 0], [.int .i64, .int .i64, .sl]⟩),
  (28, ⟨.slice 3, 1, 24, [.slice none 0 0], [.sl]⟩),
  (37, ⟨.arr 4 3, 4, 32, [.int .i64 0, .int .i64 0, .int .i64 0, .int .i64 0], [.int .i64, .int .i64, .int .i64, .int .i64]⟩),
  (38, ⟨.arr 4 4, 4, 4, [.bool false, .bool false, .bool false, .bool false], [.bool, .bool, .bool, .bool]⟩),
  (43, ⟨.tup [24, 4], 1, 0, [.tuple #[.agg #[.int .i64 0, .int .i64 0, .slice none 0 0], .bool false]], []⟩)]
noncomputable def T : Tab := tabOf rows
noncomputable def fns : List Nat := [3, 4, 5, 6, 7, 8, 9, 10, 11, 12, 13, 14, 15, 16, 17, 18, 19, 20, 21, 22, 23, 24, 25, 26, 27, 28, 29, 30, 31, 32, 33, 34, 35]
noncomputable def cx (n : Nat) : Cx := ⟨P, T, fun f => memN f fns, n⟩
theorem rows_ok : rows.map (fun p => viewTI P p.1) = rows.map (fun p => some (p.2.d, p.2.size, p.2.bytes, p.2.zero)) := by kernel_rfl
theorem fns_ok : fnsB P fns = true := by kernel_rfl
theorem mixed_ok : P.follows .mixedOrders = true := by kernel_rfl
theorem ok (n : Nat) : OkCx (cx n) := okCx_of rows_ok fns_ok mixed_ok n
/-! 3 herdsman/herdsmanlaw2.TileAsks -/
def herdsmanlaw2_TileAsks.qv (Q : Bool → World → Prop) (v : Value) (w : World) : Prop :=
  dB v fun r => Q r w
def herdsmanlaw2_TileAsks.call (t_W : Int) (t_H : Int) (t_C_a : Option Addr) (t_C_n : Nat) (t_C_c : Nat) (w0_1 : Int) (h0 : Int) (local0 : Int) (side : Int) (raw : Bool) (w : World) (Q : Bool → World → Prop) : Prop := CallK P 3 #[.agg #[.int .i64 t_W, .int .i64 t_H, .slice t_C_a t_C_n t_C_c], .int .i64 w0_1, .int .i64 h0, .int .i64 local0, .int .i64 side, .bool raw] w (herdsmanlaw2_TileAsks.qv Q)
theorem herdsmanlaw2_TileAsks.mono {t_W : Int} {t_H : Int} {t_C_a : Option Addr} {t_C_n : Nat} {t_C_c : Nat} {w0_1 : Int} {h0 : Int} {local0 : Int} {side : Int} {raw : Bool} {w : World} {Q Q' : Bool → World → Prop} (hq : ∀ r w, Q r w → Q' r w) (h : herdsmanlaw2_TileAsks.call t_W t_H t_C_a t_C_n t_C_c w0_1 h0 local0 side raw w Q) : herdsmanlaw2_TileAsks.call t_W t_H t_C_a t_C_n t_C_c w0_1 h0 local0 side raw w Q' := by
  refine CallK.mono ?_ h
  intro v w' h0
  unfold herdsmanlaw2_TileAsks.qv at h0 ⊢
  obtain ⟨r, rfl, h1⟩ := dB_elim h0
  exact hq _ w' h1
/-! 4 herdsman/herdsmanlaw2.TileMates -/
def herdsmanlaw2_TileMates.qv (Q : Bool → World → Prop) (v : Value) (w : World) : Prop :=
  dB v fun r => Q r w
def herdsmanlaw2_TileMates.call (c_a : Option Addr) (c_n : Nat) (c_c : Nat) (w0_1 : Int) (h0 : Int) (local0 : Int) (w : World) (Q : Bool → World → Prop) : Prop := CallK P 4 #[.slice c_a c_n c_c, .int .i64 w0_1, .int .i64 h0, .int .i64 local0] w (herdsmanlaw2_TileMates.qv Q)
theorem herdsmanlaw2_TileMates.mono {c_a : Option Addr} {c_n : Nat} {c_c : Nat} {w0_1 : Int} {h0 : Int} {local0 : Int} {w : World} {Q Q' : Bool → World → Prop} (hq : ∀ r w, Q r w → Q' r w) (h : herdsmanlaw2_TileMates.call c_a c_n c_c w0_1 h0 local0 w Q) : herdsmanlaw2_TileMates.call c_a c_n c_c w0_1 h0 local0 w Q' := by
  refine CallK.mono ?_ h
  intro v w' h0
  unfold herdsmanlaw2_TileMates.qv at h0 ⊢
  obtain ⟨r, rfl, h1⟩ := dB_elim h0
  exact hq _ w' h1
/-! 5 herdsman/herdsmanlaw2.TileSame -/
def herdsmanlaw2_TileSame.qv (Q : Bool → World → Prop) (v : Value) (w : World) : Prop :=
  dB v fun r => Q r w
def herdsmanlaw2_TileSame.call (a_W : Int) (a_H : Int) (a_C_a : Option Addr) (a_C_n : Nat) (a_C_c : Nat) (b_W : Int) (b_H : Int) (b_C_a : Option Addr) (b_C_n : Nat) (b_C_c : Nat) (at0 : Int) (by0 : Int) (one : Bool) (w : World) (Q : Bool → World → Prop) : Prop := CallK P 5 #[.agg #[.int .i64 a_W, .int .i64 a_H, .slice a_C_a a_C_n a_C_c], .agg #[.int .i64 b_W, .int .i64 b_H, .slice b_C_a b_C_n b_C_c], .int .i64 at0, .int .u8 by0, .bool one] w (herdsmanlaw2_TileSame.qv Q)
theorem herdsmanlaw2_TileSame.mono {a_W : Int} {a_H : Int} {a_C_a : Option Addr} {a_C_n : Nat} {a_C_c : Nat} {b_W : Int} {b_H : Int} {b_C_a : Option Addr} {b_C_n : Nat} {b_C_c : Nat} {at0 : Int} {by0 : Int} {one : Bool} {w : World} {Q Q' : Bool → World → Prop} (hq : ∀ r w, Q r w → Q' r w) (h : herdsmanlaw2_TileSame.call a_W a_H a_C_a a_C_n a_C_c b_W b_H b_C_a b_C_n b_C_c at0 by0 one w Q) : herdsmanlaw2_TileSame.call a_W a_H a_C_a a_C_n a_C_c b_W b_H b_C_a b_C_n b_C_c at0 by0 one w Q' := by
  refine CallK.mono ?_ h
  intro v w' h0
  unfold herdsmanlaw2_TileSame.qv at h0 ⊢
  obtain ⟨r, rfl, h1⟩ := dB_elim h0
  exact hq _ w' h1
/-! 6 herdsman/herdsmanlaw2.TileLays -/
def herdsmanlaw2_TileLays.qv (Q : Bool → World → Prop) (v : Value) (w : World) : Prop :=
  dB v fun r => Q r w
def herdsmanlaw2_TileLays.call (t_W : Int) (t_H : Int) (t_C_a : Option Addr) (t_C_n : Nat) (t_C_c : Nat) (w0_1 : Int) (h0 : Int) (local0 : Int) (cost : Int) (raw : Bool) (w : World) (Q : Bool → World → Prop) : Prop := CallK P 6 #[.agg #[.int .i64 t_W, .int .i64 t_H, .slice t_C_a t_C_n t_C_c], .int .i64 w0_1, .int .i64 h0, .int .i64 local0, .int .i64 cost, .bool raw] w (herdsmanlaw2_TileLays.qv Q)
theorem herdsmanlaw2_TileLays.mono {t_W : Int} {t_H : Int} {t_C_a : Option Addr} {t_C_n : Nat} {t_C_c : Nat} {w0_1 : Int} {h0 : Int} {local0 : Int} {cost : Int} {raw : Bool} {w : World} {Q Q' : Bool → World → Prop} (hq : ∀ r w, Q r w → Q' r w) (h : herdsmanlaw2_TileLays.call t_W t_H t_C_a t_C_n t_C_c w0_1 h0 local0 cost raw w Q) : herdsmanlaw2_TileLays.call t_W t_H t_C_a t_C_n t_C_c w0_1 h0 local0 cost raw w Q' := by
  refine CallK.mono ?_ h
  intro v w' h0
  unfold herdsmanlaw2_TileLays.qv at h0 ⊢
  obtain ⟨r, rfl, h1⟩ := dB_elim h0
  exact hq _ w' h1
/-! 7 herdsman/herdsmanlaw2.TileCounts -/
def herdsmanlaw2_TileCounts.qv (Q : Bool → World → Prop) (v : Value) (w : World) : Prop :=
  dB v fun r => Q r w
def herdsmanlaw2_TileCounts.call (c_a : Option Addr) (c_n : Nat) (c_c : Nat) (w0_1 : Int) (h0 : Int) (local0 : Int) (w : World) (Q : Bool → World → Prop) : Prop := CallK P 7 #[.slice c_a c_n c_c, .int .i64 w0_1, .int .i64 h0, .int .i64 local0] w (herdsmanlaw2_TileCounts.qv Q)
theorem herdsmanlaw2_TileCounts.mono {c_a : Option Addr} {c_n : Nat} {c_c : Nat} {w0_1 : Int} {h0 : Int} {local0 : Int} {w : World} {Q Q' : Bool → World → Prop} (hq : ∀ r w, Q r w → Q' r w) (h : herdsmanlaw2_TileCounts.call c_a c_n c_c w0_1 h0 local0 w Q) : herdsmanlaw2_TileCounts.call c_a c_n c_c w0_1 h0 local0 w Q' := by
  refine CallK.mono ?_ h
  intro v w' h0
  unfold herdsmanlaw2_TileCounts.qv at h0 ⊢
  obtain ⟨r, rfl, h1⟩ := dB_elim h0
  exact hq _ w' h1
/-! 8 herdsman/herdsmanlaw2.told -/
def herdsmanlaw2_told.qv (Q : Bool → World → Prop) (v : Value) (w : World) : Prop :=
  dB v fun r => Q r w
def herdsmanlaw2_told.call (w : World) (Q : Bool → World → Prop) : Prop := CallK P 8 #[] w (herdsmanlaw2_told.qv Q)
theorem herdsmanlaw2_told.mono {w : World} {Q Q' : Bool → World → Prop} (hq : ∀ r w, Q r w → Q' r w) (h : herdsmanlaw2_told.call w Q) : herdsmanlaw2_told.call w Q' := by
  refine CallK.mono ?_ h
  intro v w' h0
  unfold herdsmanlaw2_told.qv at h0 ⊢
  obtain ⟨r, rfl, h1⟩ := dB_elim h0
  exact hq _ w' h1
/-! 9 herdsman/herdsmanlaw2.near -/
def herdsmanlaw2_near.qv (Q : Int → Int → Option Addr → Nat → Nat → World → Prop) (v : Value) (w : World) : Prop :=
  dL v fun r_l => dCons r_l fun r_v0 r_l0 => dI .i64 r_v0 fun r_0 => dCons r_l0 fun r_v1 r_l1 => dI .i64 r_v1 fun r_1 => dCons r_l1 fun r_v2 r_l2 => dS r_v2 fun r_2_a r_2_n r_2_c => dNil r_l2 <| Q r_0 r_1 r_2_a r_2_n r_2_c w
def herdsmanlaw2_near.call (t_W : Int) (t_H : Int) (t_C_a : Option Addr) (t_C_n : Nat) (t_C_c : Nat) (w0_1 : Int) (h0 : Int) (raw : Bool) (w : World) (Q : Int → Int → Option Addr → Nat → Nat → World → Prop) : Prop := CallK P 9 #[.agg #[.int .i64 t_W, .int .i64 t_H, .slice t_C_a t_C_n t_C_c], .int .i64 w0_1, .int .i64 h0, .bool raw] w (herdsmanlaw2_near.qv Q)
theorem herdsmanlaw2_near.mono {t_W : Int} {t_H : Int} {t_C_a : Option Addr} {t_C_n : Nat} {t_C_c : Nat} {w0_1 : Int} {h0 : Int} {raw : Bool} {w : World} {Q Q' : Int → Int → Option Addr → Nat → Nat → World → Prop} (hq : ∀ r_0 r_1 r_2_a r_2_n r_2_c w, Q r_0 r_1 r_2_a r_2_n r_2_c w → Q' r_0 r_1 r_2_a r_2_n r_2_c w) (h : herdsmanlaw2_near.call t_W t_H t_C_a t_C_n t_C_c w0_1 h0 raw w Q) : herdsmanlaw2_near.call t_W t_H t_C_a t_C_n t_C_c w0_1 h0 raw w Q' := by
  refine CallK.mono ?_ h
  intro v w' h0
  unfold herdsmanlaw2_near.qv at h0 ⊢
  obtain ⟨r_l, rfl, h1⟩ := dL_elim h0
  obtain ⟨r_v0, r_l0, rfl, h2⟩ := dCons_elim h1
  obtain ⟨r_0, rfl, h3⟩ := dI_elim h2
  obtain ⟨r_v1, r_l1, rfl, h4⟩ := dCons_elim h3
  obtain ⟨r_1, rfl, h5⟩ := dI_elim h4
  obtain ⟨r_v2, r_l2, rfl, h6⟩ := dCons_elim h5
  obtain ⟨r_2_a, r_2_n, r_2_c, rfl, h7⟩ := dS_elim h6
  obtain ⟨rfl, h8⟩ := dNil_elim h7
  exact hq _ _ _ _ _ w' h8
/-! 10 herdsman/herdsmanref1.Within -/
def herdsmanref1_Within.qv (Q : Int → World → Prop) (v : Value) (w : World) : Prop :=
  dI .i64 v fun r => Q r w
def herdsmanref1_Within.call (n : Int) (lo : Int) (hi : Int) (w : World) (Q : Int → World → Prop) : Prop := CallK P 10 #[.int .i64 n, .int .i64 lo, .int .i64 hi] w (herdsmanref1_Within.qv Q)
theorem herdsmanref1_Within.mono {n : Int} {lo : Int} {hi : Int} {w : World} {Q Q' : Int → World → Prop} (hq : ∀ r w, Q r w → Q' r w) (h : herdsmanref1_Within.call n lo hi w Q) : herdsmanref1_Within.call n lo hi w Q' := by
  refine CallK.mono ?_ h
  intro v w' h0
  unfold herdsmanref1_Within.qv at h0 ⊢
  obtain ⟨r, rfl, h1⟩ := dI_elim h0
  exact hq _ w' h1
/-! 11 herdsman/herdsmanref1.MayTile -/
def herdsmanref1_MayTile.qv (Q : Bool → World → Prop) (v : Value) (w : World) : Prop :=
  dB v fun r => Q r w
def herdsmanref1_MayTile.call (t_W : Int) (t_H : Int) (t_C_a : Option Addr) (t_C_n : Nat) (t_C_c : Nat) (w : World) (Q : Bool → World → Prop) : Prop := CallK P 11 #[.agg #[.int .i64 t_W, .int .i64 t_H, .slice t_C_a t_C_n t_C_c]] w (herdsmanref1_MayTile.qv Q)
theorem herdsmanref1_MayTile.mono {t_W : Int} {t_H : Int} {t_C_a : Option Addr} {t_C_n : Nat} {t_C_c : Nat} {w : World} {Q Q' : Bool → World → Prop} (hq : ∀ r w, Q r w → Q' r w) (h : herdsmanref1_MayTile.call t_W t_H t_C_a t_C_n t_C_c w Q) : herdsmanref1_MayTile.call t_W t_H t_C_a t_C_n t_C_c w Q' := by
  refine CallK.mono ?_ h
  intro v w' h0
  unfold herdsmanref1_MayTile.qv at h0 ⊢
  obtain ⟨r, rfl, h1⟩ := dB_elim h0
  exact hq _ w' h1
/-! 12 herdsman/herdsmanref1.In -/
def herdsmanref1_In.qv (Q : Bool → World → Prop) (v : Value) (w : World) : Prop :=
  dB v fun r => Q r w
def herdsmanref1_In.call (n : Int) (lo : Int) (hi : Int) (w : World) (Q : Bool → World → Prop) : Prop := CallK P 12 #[.int .i64 n, .int .i64 lo, .int .i64 hi] w (herdsmanref1_In.qv Q)
theorem herdsmanref1_In.mono {n : Int} {lo : Int} {hi : Int} {w : World} {Q Q' : Bool → World → Prop} (hq : ∀ r w, Q r w → Q' r w) (h : herdsmanref1_In.call n lo hi w Q) : herdsmanref1_In.call n lo hi w Q' := by
  refine CallK.mono ?_ h
  intro v w' h0
  unfold herdsmanref1_In.qv at h0 ⊢
  obtain ⟨r, rfl, h1⟩ := dB_elim h0
  exact hq _ w' h1
/-! 13 herdsman/tile.May -/
def tile_May.qv (Q : Bool → World → Prop) (v : Value) (w : World) : Prop :=
  dB v fun r => Q r w
def tile_May.call (t_W : Int) (t_H : Int) (t_C_a : Option Addr) (t_C_n : Nat) (t_C_c : Nat) (w : World) (Q : Bool → World → Prop) : Prop := CallK P 13 #[.agg #[.int .i64 t_W, .int .i64 t_H, .slice t_C_a t_C_n t_C_c]] w (tile_May.qv Q)
theorem tile_May.mono {t_W : Int} {t_H : Int} {t_C_a : Option Addr} {t_C_n : Nat} {t_C_c : Nat} {w : World} {Q Q' : Bool → World → Prop} (hq : ∀ r w, Q r w → Q' r w) (h : tile_May.call t_W t_H t_C_a t_C_n t_C_c w Q) : tile_May.call t_W t_H t_C_a t_C_n t_C_c w Q' := by
  refine CallK.mono ?_ h
  intro v w' h0
  unfold tile_May.qv at h0 ⊢
  obtain ⟨r, rfl, h1⟩ := dB_elim h0
  exact hq _ w' h1
/-! 14 herdsman/tile.At -/
def tile_At.qv (Q : Int → World → Prop) (v : Value) (w : World) : Prop :=
  dI .i64 v fun r => Q r w
def tile_At.call (t_W : Int) (t_H : Int) (t_C_a : Option Addr) (t_C_n : Nat) (t_C_c : Nat) (local0 : Int) (w : World) (Q : Int → World → Prop) : Prop := CallK P 14 #[.agg #[.int .i64 t_W, .int .i64 t_H, .slice t_C_a t_C_n t_C_c], .int .i64 local0] w (tile_At.qv Q)
theorem tile_At.mono {t_W : Int} {t_H : Int} {t_C_a : Option Addr} {t_C_n : Nat} {t_C_c : Nat} {local0 : Int} {w : World} {Q Q' : Int → World → Prop} (hq : ∀ r w, Q r w → Q' r w) (h : tile_At.call t_W t_H t_C_a t_C_n t_C_c local0 w Q) : tile_At.call t_W t_H t_C_a t_C_n t_C_c local0 w Q' := by
  refine CallK.mono ?_ h
  intro v w' h0
  unfold tile_At.qv at h0 ⊢
  obtain ⟨r, rfl, h1⟩ := dI_elim h0
  exact hq _ w' h1
/-! 15 herdsman/tile.Near -/
def tile_Near.qv (Q : Int → World → Prop) (v : Value) (w : World) : Prop :=
  dI .i64 v fun r => Q r w
def tile_Near.call (t_W : Int) (t_H : Int) (t_C_a : Option Addr) (t_C_n : Nat) (t_C_c : Nat) (local0 : Int) (side : Int) (w : World) (Q : Int → World → Prop) : Prop := CallK P 15 #[.agg #[.int .i64 t_W, .int .i64 t_H, .slice t_C_a t_C_n t_C_c], .int .i64 local0, .int .i64 side] w (tile_Near.qv Q)
theorem tile_Near.mono {t_W : Int} {t_H : Int} {t_C_a : Option Addr} {t_C_n : Nat} {t_C_c : Nat} {local0 : Int} {side : Int} {w : World} {Q Q' : Int → World → Prop} (hq : ∀ r w, Q r w → Q' r w) (h : tile_Near.call t_W t_H t_C_a t_C_n t_C_c local0 side w Q) : tile_Near.call t_W t_H t_C_a t_C_n t_C_c local0 side w Q' := by
  refine CallK.mono ?_ h
  intro v w' h0
  unfold tile_Near.qv at h0 ⊢
  obtain ⟨r, rfl, h1⟩ := dI_elim h0
  exact hq _ w' h1
/-! 16 herdsman/herdsmanref1.Near -/
def herdsmanref1_Near.qv (Q : Int → World → Prop) (v : Value) (w : World) : Prop :=
  dI .i64 v fun r => Q r w
def herdsmanref1_Near.call (t_W : Int) (t_H : Int) (t_C_a : Option Addr) (t_C_n : Nat) (t_C_c : Nat) (l : Int) (side : Int) (w : World) (Q : Int → World → Prop) : Prop := CallK P 16 #[.agg #[.int .i64 t_W, .int .i64 t_H, .slice t_C_a t_C_n t_C_c], .int .i64 l, .int .i64 side] w (herdsmanref1_Near.qv Q)
theorem herdsmanref1_Near.mono {t_W : Int} {t_H : Int} {t_C_a : Option Addr} {t_C_n : Nat} {t_C_c : Nat} {l : Int} {side : Int} {w : World} {Q Q' : Int → World → Prop} (hq : ∀ r w, Q r w → Q' r w) (h : herdsmanref1_Near.call t_W t_H t_C_a t_C_n t_C_c l side w Q) : herdsmanref1_Near.call t_W t_H t_C_a t_C_n t_C_c l side w Q' := by
  refine CallK.mono ?_ h
  intro v w' h0
  unfold herdsmanref1_Near.qv at h0 ⊢
  obtain ⟨r, rfl, h1⟩ := dI_elim h0
  exact hq _ w' h1
/-! 17 herdsman/herdsmanref1.Ints -/
def herdsmanref1_Ints.qv (Q : Bool → World → Prop) (v : Value) (w : World) : Prop :=
  dB v fun r => Q r w
def herdsmanref1_Ints.call (a_a : Option Addr) (a_n : Nat) (a_c : Nat) (b_a : Option Addr) (b_n : Nat) (b_c : Nat) (w : World) (Q : Bool → World → Prop) : Prop := CallK P 17 #[.slice a_a a_n a_c, .slice b_a b_n b_c] w (herdsmanref1_Ints.qv Q)
theorem herdsmanref1_Ints.mono {a_a : Option Addr} {a_n : Nat} {a_c : Nat} {b_a : Option Addr} {b_n : Nat} {b_c : Nat} {w : World} {Q Q' : Bool → World → Prop} (hq : ∀ r w, Q r w → Q' r w) (h : herdsmanref1_Ints.call a_a a_n a_c b_a b_n b_c w Q) : herdsmanref1_Ints.call a_a a_n a_c b_a b_n b_c w Q' := by
  refine CallK.mono ?_ h
  intro v w' h0
  unfold herdsmanref1_Ints.qv at h0 ⊢
  obtain ⟨r, rfl, h1⟩ := dB_elim h0
  exact hq _ w' h1
/-! 18 herdsman/tile.Open -/
def tile_Open.qv (Q : Option Addr → Nat → Nat → World → Prop) (v : Value) (w : World) : Prop :=
  dS v fun r_a r_n r_c => Q r_a r_n r_c w
def tile_Open.call (t_W : Int) (t_H : Int) (t_C_a : Option Addr) (t_C_n : Nat) (t_C_c : Nat) (w : World) (Q : Option Addr → Nat → Nat → World → Prop) : Prop := CallK P 18 #[.agg #[.int .i64 t_W, .int .i64 t_H, .slice t_C_a t_C_n t_C_c]] w (tile_Open.qv Q)
theorem tile_Open.mono {t_W : Int} {t_H : Int} {t_C_a : Option Addr} {t_C_n : Nat} {t_C_c : Nat} {w : World} {Q Q' : Option Addr → Nat → Nat → World → Prop} (hq : ∀ r_a r_n r_c w, Q r_a r_n r_c w → Q' r_a r_n r_c w) (h : tile_Open.call t_W t_H t_C_a t_C_n t_C_c w Q) : tile_Open.call t_W t_H t_C_a t_C_n t_C_c w Q' := by
  refine CallK.mono ?_ h
  intro v w' h0
  unfold tile_Open.qv at h0 ⊢
  obtain ⟨r_a, r_n, r_c, rfl, h1⟩ := dS_elim h0
  exact hq _ _ _ w' h1
/-! 19 herdsman/herdsmanref1.MadeTile -/
def herdsmanref1_MadeTile.qv (Q : Int → Int → Option Addr → Nat → Nat → World → Prop) (v : Value) (w : World) : Prop :=
  dL v fun r_l => dCons r_l fun r_v0 r_l0 => dI .i64 r_v0 fun r_0 => dCons r_l0 fun r_v1 r_l1 => dI .i64 r_v1 fun r_1 => dCons r_l1 fun r_v2 r_l2 => dS r_v2 fun r_2_a r_2_n r_2_c => dNil r_l2 <| Q r_0 r_1 r_2_a r_2_n r_2_c w
def herdsmanref1_MadeTile.call (w0_1 : Int) (h0 : Int) (c_a : Option Addr) (c_n : Nat) (c_c : Nat) (w : World) (Q : Int → Int → Option Addr → Nat → Nat → World → Prop) : Prop := CallK P 19 #[.int .i64 w0_1, .int .i64 h0, .slice c_a c_n c_c] w (herdsmanref1_MadeTile.qv Q)
theorem herdsmanref1_MadeTile.mono {w0_1 : Int} {h0 : Int} {c_a : Option Addr} {c_n : Nat} {c_c : Nat} {w : World} {Q Q' : Int → Int → Option Addr → Nat → Nat → World → Prop} (hq : ∀ r_0 r_1 r_2_a r_2_n r_2_c w, Q r_0 r_1 r_2_a r_2_n r_2_c w → Q' r_0 r_1 r_2_a r_2_n r_2_c w) (h : herdsmanref1_MadeTile.call w0_1 h0 c_a c_n c_c w Q) : herdsmanref1_MadeTile.call w0_1 h0 c_a c_n c_c w Q' := by
  refine CallK.mono ?_ h
  intro v w' h0
  unfold herdsmanref1_MadeTile.qv at h0 ⊢
  obtain ⟨r_l, rfl, h1⟩ := dL_elim h0
  obtain ⟨r_v0, r_l0, rfl, h2⟩ := dCons_elim h1
  obtain ⟨r_0, rfl, h3⟩ := dI_elim h2
  obtain ⟨r_v1, r_l1, rfl, h4⟩ := dCons_elim h3
  obtain ⟨r_1, rfl, h5⟩ := dI_elim h4
  obtain ⟨r_v2, r_l2, rfl, h6⟩ := dCons_elim h5
  obtain ⟨r_2_a, r_2_n, r_2_c, rfl, h7⟩ := dS_elim h6
  obtain ⟨rfl, h8⟩ := dNil_elim h7
  exact hq _ _ _ _ _ w' h8
/-! 20 herdsman/herdsmanref1.OwnTile -/
def herdsmanref1_OwnTile.qv (Q : Int → Int → Option Addr → Nat → Nat → World → Prop) (v : Value) (w : World) : Prop :=
  dL v fun r_l => dCons r_l fun r_v0 r_l0 => dI .i64 r_v0 fun r_0 => dCons r_l0 fun r_v1 r_l1 => dI .i64 r_v1 fun r_1 => dCons r_l1 fun r_v2 r_l2 => dS r_v2 fun r_2_a r_2_n r_2_c => dNil r_l2 <| Q r_0 r_1 r_2_a r_2_n r_2_c w
def herdsmanref1_OwnTile.call (t_W : Int) (t_H : Int) (t_C_a : Option Addr) (t_C_n : Nat) (t_C_c : Nat) (w : World) (Q : Int → Int → Option Addr → Nat → Nat → World → Prop) : Prop := CallK P 20 #[.agg #[.int .i64 t_W, .int .i64 t_H, .slice t_C_a t_C_n t_C_c]] w (herdsmanref1_OwnTile.qv Q)
theorem herdsmanref1_OwnTile.mono {t_W : Int} {t_H : Int} {t_C_a : Option Addr} {t_C_n : Nat} {t_C_c : Nat} {w : World} {Q Q' : Int → Int → Option Addr → Nat → Nat → World → Prop} (hq : ∀ r_0 r_1 r_2_a r_2_n r_2_c w, Q r_0 r_1 r_2_a r_2_n r_2_c w → Q' r_0 r_1 r_2_a r_2_n r_2_c w) (h : herdsmanref1_OwnTile.call t_W t_H t_C_a t_C_n t_C_c w Q) : herdsmanref1_OwnTile.call t_W t_H t_C_a t_C_n t_C_c w Q' := by
  refine CallK.mono ?_ h
  intro v w' h0
  unfold herdsmanref1_OwnTile.qv at h0 ⊢
  obtain ⟨r_l, rfl, h1⟩ := dL_elim h0
  obtain ⟨r_v0, r_l0, rfl, h2⟩ := dCons_elim h1
  obtain ⟨r_0, rfl, h3⟩ := dI_elim h2
  obtain ⟨r_v1, r_l1, rfl, h4⟩ := dCons_elim h3
  obtain ⟨r_1, rfl, h5⟩ := dI_elim h4
  obtain ⟨r_v2, r_l2, rfl, h6⟩ := dCons_elim h5
  obtain ⟨r_2_a, r_2_n, r_2_c, rfl, h7⟩ := dS_elim h6
  obtain ⟨rfl, h8⟩ := dNil_elim h7
  exact hq _ _ _ _ _ w' h8
/-! 21 herdsman/tile.Same -/
def tile_Same.qv (Q : Bool → World → Prop) (v : Value) (w : World) : Prop :=
  dB v fun r => Q r w
def tile_Same.call (a_W : Int) (a_H : Int) (a_C_a : Option Addr) (a_C_n : Nat) (a_C_c : Nat) (b_W : Int) (b_H : Int) (b_C_a : Option Addr) (b_C_n : Nat) (b_C_c : Nat) (w : World) (Q : Bool → World → Prop) : Prop := CallK P 21 #[.agg #[.int .i64 a_W, .int .i64 a_H, .slice a_C_a a_C_n a_C_c], .agg #[.int .i64 b_W, .int .i64 b_H, .slice b_C_a b_C_n b_C_c]] w (tile_Same.qv Q)
theorem tile_Same.mono {a_W : Int} {a_H : Int} {a_C_a : Option Addr} {a_C_n : Nat} {a_C_c : Nat} {b_W : Int} {b_H : Int} {b_C_a : Option Addr} {b_C_n : Nat} {b_C_c : Nat} {w : World} {Q Q' : Bool → World → Prop} (hq : ∀ r w, Q r w → Q' r w) (h : tile_Same.call a_W a_H a_C_a a_C_n a_C_c b_W b_H b_C_a b_C_n b_C_c w Q) : tile_Same.call a_W a_H a_C_a a_C_n a_C_c b_W b_H b_C_a b_C_n b_C_c w Q' := by
  refine CallK.mono ?_ h
  intro v w' h0
  unfold tile_Same.qv at h0 ⊢
  obtain ⟨r, rfl, h1⟩ := dB_elim h0
  exact hq _ w' h1
/-! 22 herdsman/herdsmanref1.SameTile -/
def herdsmanref1_SameTile.qv (Q : Bool → World → Prop) (v : Value) (w : World) : Prop :=
  dB v fun r => Q r w
def herdsmanref1_SameTile.call (a_W : Int) (a_H : Int) (a_C_a : Option Addr) (a_C_n : Nat) (a_C_c : Nat) (b_W : Int) (b_H : Int) (b_C_a : Option Addr) (b_C_n : Nat) (b_C_c : Nat) (w : World) (Q : Bool → World → Prop) : Prop := CallK P 22 #[.agg #[.int .i64 a_W, .int .i64 a_H, .slice a_C_a a_C_n a_C_c], .agg #[.int .i64 b_W, .int .i64 b_H, .slice b_C_a b_C_n b_C_c]] w (herdsmanref1_SameTile.qv Q)
theorem herdsmanref1_SameTile.mono {a_W : Int} {a_H : Int} {a_C_a : Option Addr} {a_C_n : Nat} {a_C_c : Nat} {b_W : Int} {b_H : Int} {b_C_a : Option Addr} {b_C_n : Nat} {b_C_c : Nat} {w : World} {Q Q' : Bool → World → Prop} (hq : ∀ r w, Q r w → Q' r w) (h : herdsmanref1_SameTile.call a_W a_H a_C_a a_C_n a_C_c b_W b_H b_C_a b_C_n b_C_c w Q) : herdsmanref1_SameTile.call a_W a_H a_C_a a_C_n a_C_c b_W b_H b_C_a b_C_n b_C_c w Q' := by
  refine CallK.mono ?_ h
  intro v w' h0
  unfold herdsmanref1_SameTile.qv at h0 ⊢
  obtain ⟨r, rfl, h1⟩ := dB_elim h0
  exact hq _ w' h1
/-! 23 herdsman/tile.With -/
def tile_With.qv (Q : Int → Int → Option Addr → Nat → Nat → Bool → World → Prop) (v : Value) (w : World) : Prop :=
  dT v fun r_l => dCons r_l fun r_v0 r_l0 => dL r_v0 fun r_0_l => dCons r_0_l fun r_0_v0 r_0_l0 => dI .i64 r_0_v0 fun r_0_0 => dCons r_0_l0 fun r_0_v1 r_0_l1 => dI .i64 r_0_v1 fun r_0_1 => dCons r_0_l1 fun r_0_v2 r_0_l2 => dS r_0_v2 fun r_0_2_a r_0_2_n r_0_2_c => dNil r_0_l2 <| dCons r_l0 fun r_v1 r_l1 => dB r_v1 fun r_1 => dNil r_l1 <| Q r_0_0 r_0_1 r_0_2_a r_0_2_n r_0_2_c r_1 w
def tile_With.call (t_W : Int) (t_H : Int) (t_C_a : Option Addr) (t_C_n : Nat) (t_C_c : Nat) (local0 : Int) (cost : Int) (w : World) (Q : Int → Int → Option Addr → Nat → Nat → Bool → World → Prop) : Prop := CallK P 23 #[.agg #[.int .i64 t_W, .int .i64 t_H, .slice t_C_a t_C_n t_C_c], .int .i64 local0, .int .i64 cost] w (tile_With.qv Q)
theorem tile_With.mono {t_W : Int} {t_H : Int} {t_C_a : Option Addr} {t_C_n : Nat} {t_C_c : Nat} {local0 : Int} {cost : Int} {w : World} {Q Q' : Int → Int → Option Addr → Nat → Nat → Bool → World → Prop} (hq : ∀ r_0 r_1 r_2_a r_2_n r_2_c r w, Q r_0 r_1 r_2_a r_2_n r_2_c r w → Q' r_0 r_1 r_2_a r_2_n r_2_c r w) (h : tile_With.call t_W t_H t_C_a t_C_n t_C_c local0 cost w Q) : tile_With.call t_W t_H t_C_a t_C_n t_C_c local0 cost w Q' := by
  refine CallK.mono ?_ h
  intro v w' h0
  unfold tile_With.qv at h0 ⊢
  obtain ⟨r_l, rfl, h1⟩ := dT_elim h0
  obtain ⟨r_v0, r_l0, rfl, h2⟩ := dCons_elim h1
  obtain ⟨r_0_l, rfl, h3⟩ := dL_elim h2
  obtain ⟨r_0_v0, r_0_l0, rfl, h4⟩ := dCons_elim h3
  obtain ⟨r_0_0, rfl, h5⟩ := dI_elim h4
  obtain ⟨r_0_v1, r_0_l1, rfl, h6⟩ := dCons_elim h5
  obtain ⟨r_0_1, rfl, h7⟩ := dI_elim h6
  obtain ⟨r_0_v2, r_0_l2, rfl, h8⟩ := dCons_elim h7
  obtain ⟨r_0_2_a, r_0_2_n, r_0_2_c, rfl, h9⟩ := dS_elim h8
  obtain ⟨rfl, h10⟩ := dNil_elim h9
  obtain ⟨r_v1, r_l1, rfl, h11⟩ := dCons_elim h10
  obtain ⟨r_1, rfl, h12⟩ := dB_elim h11
  obtain ⟨rfl, h13⟩ := dNil_elim h12
  exact hq _ _ _ _ _ _ w' h13
/-! 24 herdsman/herdsmanref1.full -/
def herdsmanref1_full.qv (Q : Bool → World → Prop) (v : Value) (w : World) : Prop :=
  dB v fun r => Q r w
def herdsmanref1_full.call (c_a : Option Addr) (c_n : Nat) (c_c : Nat) (w : World) (Q : Bool → World → Prop) : Prop := CallK P 24 #[.slice c_a c_n c_c] w (herdsmanref1_full.qv Q)
theorem herdsmanref1_full.mono {c_a : Option Addr} {c_n : Nat} {c_c : Nat} {w : World} {Q Q' : Bool → World → Prop} (hq : ∀ r w, Q r w → Q' r w) (h : herdsmanref1_full.call c_a c_n c_c w Q) : herdsmanref1_full.call c_a c_n c_c w Q' := by
  refine CallK.mono ?_ h
  intro v w' h0
  unfold herdsmanref1_full.qv at h0 ⊢
  obtain ⟨r, rfl, h1⟩ := dB_elim h0
  exact hq _ w' h1
/-! 25 herdsman/tile.sized -/
def tile_sized.qv (Q : Bool → World → Prop) (v : Value) (w : World) : Prop :=
  dB v fun r => Q r w
def tile_sized.call (n : Int) (w : World) (Q : Bool → World → Prop) : Prop := CallK P 25 #[.int .i64 n] w (tile_sized.qv Q)
theorem tile_sized.mono {n : Int} {w : World} {Q Q' : Bool → World → Prop} (hq : ∀ r w, Q r w → Q' r w) (h : tile_sized.call n w Q) : tile_sized.call n w Q' := by
  refine CallK.mono ?_ h
  intro v w' h0
  unfold tile_sized.qv at h0 ⊢
  obtain ⟨r, rfl, h1⟩ := dB_elim h0
  exact hq _ w' h1
/-! 26 slices.Contains[[]byte,byte] -/
def slices_Contains_byte_byte.qv (Q : Bool → World → Prop) (v : Value) (w : World) : Prop :=
  dB v fun r => Q r w
def slices_Contains_byte_byte.call (s_a : Option Addr) (s_n : Nat) (s_c : Nat) (v : Int) (w : World) (Q : Bool → World → Prop) : Prop := CallK P 26 #[.slice s_a s_n s_c, .int .u8 v] w (slices_Contains_byte_byte.qv Q)
theorem slices_Contains_byte_byte.mono {s_a : Option Addr} {s_n : Nat} {s_c : Nat} {v : Int} {w : World} {Q Q' : Bool → World → Prop} (hq : ∀ r w, Q r w → Q' r w) (h : slices_Contains_byte_byte.call s_a s_n s_c v w Q) : slices_Contains_byte_byte.call s_a s_n s_c v w Q' := by
  refine CallK.mono ?_ h
  intro v w' h0
  unfold slices_Contains_byte_byte.qv at h0 ⊢
  obtain ⟨r, rfl, h1⟩ := dB_elim h0
  exact hq _ w' h1
/-! 27 herdsman/tile.is -/
def tile_is.qv (Q : Bool → World → Prop) (v : Value) (w : World) : Prop :=
  dB v fun r => Q r w
def tile_is.call (t_W : Int) (t_H : Int) (t_C_a : Option Addr) (t_C_n : Nat) (t_C_c : Nat) (local0 : Int) (w : World) (Q : Bool → World → Prop) : Prop := CallK P 27 #[.agg #[.int .i64 t_W, .int .i64 t_H, .slice t_C_a t_C_n t_C_c], .int .i64 local0] w (tile_is.qv Q)
theorem tile_is.mono {t_W : Int} {t_H : Int} {t_C_a : Option Addr} {t_C_n : Nat} {t_C_c : Nat} {local0 : Int} {w : World} {Q Q' : Bool → World → Prop} (hq : ∀ r w, Q r w → Q' r w) (h : tile_is.call t_W t_H t_C_a t_C_n t_C_c local0 w Q) : tile_is.call t_W t_H t_C_a t_C_n t_C_c local0 w Q' := by
  refine CallK.mono ?_ h
  intro v w' h0
  unfold tile_is.qv at h0 ⊢
  obtain ⟨r, rfl, h1⟩ := dB_elim h0
  exact hq _ w' h1
/-! 28 herdsman/herdsmanref1.Step -/
def herdsmanref1_Step.qv (Q : Int → World → Prop) (v : Value) (w : World) : Prop :=
  dI .i64 v fun r => Q r w
def herdsmanref1_Step.call (w0_1 : Int) (h0 : Int) (c : Int) (side : Int) (w : World) (Q : Int → World → Prop) : Prop := CallK P 28 #[.int .i64 w0_1, .int .i64 h0, .int .i64 c, .int .i64 side] w (herdsmanref1_Step.qv Q)
theorem herdsmanref1_Step.mono {w0_1 : Int} {h0 : Int} {c : Int} {side : Int} {w : World} {Q Q' : Int → World → Prop} (hq : ∀ r w, Q r w → Q' r w) (h : herdsmanref1_Step.call w0_1 h0 c side w Q) : herdsmanref1_Step.call w0_1 h0 c side w Q' := by
  refine CallK.mono ?_ h
  intro v w' h0
  unfold herdsmanref1_Step.qv at h0 ⊢
  obtain ⟨r, rfl, h1⟩ := dI_elim h0
  exact hq _ w' h1
/-! 29 herdsman/herdsmanref1.Cost -/
def herdsmanref1_Cost.qv (Q : Int → World → Prop) (v : Value) (w : World) : Prop :=
  dI .u8 v fun r => Q r w
def herdsmanref1_Cost.call (x : Int) (w : World) (Q : Int → World → Prop) : Prop := CallK P 29 #[.int .u8 x] w (herdsmanref1_Cost.qv Q)
theorem herdsmanref1_Cost.mono {x : Int} {w : World} {Q Q' : Int → World → Prop} (hq : ∀ r w, Q r w → Q' r w) (h : herdsmanref1_Cost.call x w Q) : herdsmanref1_Cost.call x w Q' := by
  refine CallK.mono ?_ h
  intro v w' h0
  unfold herdsmanref1_Cost.qv at h0 ⊢
  obtain ⟨r, rfl, h1⟩ := dI_elim h0
  exact hq _ w' h1
/-! 30 bytes.Equal -/
def bytes_Equal.qv (Q : Bool → World → Prop) (v : Value) (w : World) : Prop :=
  dB v fun r => Q r w
def bytes_Equal.call (a_a : Option Addr) (a_n : Nat) (a_c : Nat) (b_a : Option Addr) (b_n : Nat) (b_c : Nat) (w : World) (Q : Bool → World → Prop) : Prop := CallK P 30 #[.slice a_a a_n a_c, .slice b_a b_n b_c] w (bytes_Equal.qv Q)
theorem bytes_Equal.mono {a_a : Option Addr} {a_n : Nat} {a_c : Nat} {b_a : Option Addr} {b_n : Nat} {b_c : Nat} {w : World} {Q Q' : Bool → World → Prop} (hq : ∀ r w, Q r w → Q' r w) (h : bytes_Equal.call a_a a_n a_c b_a b_n b_c w Q) : bytes_Equal.call a_a a_n a_c b_a b_n b_c w Q' := by
  refine CallK.mono ?_ h
  intro v w' h0
  unfold bytes_Equal.qv at h0 ⊢
  obtain ⟨r, rfl, h1⟩ := dB_elim h0
  exact hq _ w' h1
/-! 31 herdsman/herdsmanref1.Bytes -/
def herdsmanref1_Bytes.qv (Q : Bool → World → Prop) (v : Value) (w : World) : Prop :=
  dB v fun r => Q r w
def herdsmanref1_Bytes.call (a_a : Option Addr) (a_n : Nat) (a_c : Nat) (b_a : Option Addr) (b_n : Nat) (b_c : Nat) (w : World) (Q : Bool → World → Prop) : Prop := CallK P 31 #[.slice a_a a_n a_c, .slice b_a b_n b_c] w (herdsmanref1_Bytes.qv Q)
theorem herdsmanref1_Bytes.mono {a_a : Option Addr} {a_n : Nat} {a_c : Nat} {b_a : Option Addr} {b_n : Nat} {b_c : Nat} {w : World} {Q Q' : Bool → World → Prop} (hq : ∀ r w, Q r w → Q' r w) (h : herdsmanref1_Bytes.call a_a a_n a_c b_a b_n b_c w Q) : herdsmanref1_Bytes.call a_a a_n a_c b_a b_n b_c w Q' := by
  refine CallK.mono ?_ h
  intro v w' h0
  unfold herdsmanref1_Bytes.qv at h0 ⊢
  obtain ⟨r, rfl, h1⟩ := dB_elim h0
  exact hq _ w' h1
/-! 32 slices.Clone[[]byte,byte] -/
def slices_Clone_byte_byte.qv (Q : Option Addr → Nat → Nat → World → Prop) (v : Value) (w : World) : Prop :=
  dS v fun r_a r_n r_c => Q r_a r_n r_c w
def slices_Clone_byte_byte.call (s_a : Option Addr) (s_n : Nat) (s_c : Nat) (w : World) (Q : Option Addr → Nat → Nat → World → Prop) : Prop := CallK P 32 #[.slice s_a s_n s_c] w (slices_Clone_byte_byte.qv Q)
theorem slices_Clone_byte_byte.mono {s_a : Option Addr} {s_n : Nat} {s_c : Nat} {w : World} {Q Q' : Option Addr → Nat → Nat → World → Prop} (hq : ∀ r_a r_n r_c w, Q r_a r_n r_c w → Q' r_a r_n r_c w) (h : slices_Clone_byte_byte.call s_a s_n s_c w Q) : slices_Clone_byte_byte.call s_a s_n s_c w Q' := by
  refine CallK.mono ?_ h
  intro v w' h0
  unfold slices_Clone_byte_byte.qv at h0 ⊢
  obtain ⟨r_a, r_n, r_c, rfl, h1⟩ := dS_elim h0
  exact hq _ _ _ w' h1
/-! 33 slices.Index[[]byte,byte] -/
def slices_Index_byte_byte.qv (Q : Int → World → Prop) (v : Value) (w : World) : Prop :=
  dI .i64 v fun r => Q r w
def slices_Index_byte_byte.call (s_a : Option Addr) (s_n : Nat) (s_c : Nat) (v : Int) (w : World) (Q : Int → World → Prop) : Prop := CallK P 33 #[.slice s_a s_n s_c, .int .u8 v] w (slices_Index_byte_byte.qv Q)
theorem slices_Index_byte_byte.mono {s_a : Option Addr} {s_n : Nat} {s_c : Nat} {v : Int} {w : World} {Q Q' : Int → World → Prop} (hq : ∀ r w, Q r w → Q' r w) (h : slices_Index_byte_byte.call s_a s_n s_c v w Q) : slices_Index_byte_byte.call s_a s_n s_c v w Q' := by
  refine CallK.mono ?_ h
  intro v w' h0
  unfold slices_Index_byte_byte.qv at h0 ⊢
  obtain ⟨r, rfl, h1⟩ := dI_elim h0
  exact hq _ w' h1
/-! 34 herdsman/herdsmanref1.IsCell -/
def herdsmanref1_IsCell.qv (Q : Bool → World → Prop) (v : Value) (w : World) : Prop :=
  dB v fun r => Q r w
def herdsmanref1_IsCell.call (w0_1 : Int) (h0 : Int) (c : Int) (w : World) (Q : Bool → World → Prop) : Prop := CallK P 34 #[.int .i64 w0_1, .int .i64 h0, .int .i64 c] w (herdsmanref1_IsCell.qv Q)
theorem herdsmanref1_IsCell.mono {w0_1 : Int} {h0 : Int} {c : Int} {w : World} {Q Q' : Bool → World → Prop} (hq : ∀ r w, Q r w → Q' r w) (h : herdsmanref1_IsCell.call w0_1 h0 c w Q) : herdsmanref1_IsCell.call w0_1 h0 c w Q' := by
  refine CallK.mono ?_ h
  intro v w' h0
  unfold herdsmanref1_IsCell.qv at h0 ⊢
  obtain ⟨r, rfl, h1⟩ := dB_elim h0
  exact hq _ w' h1
/-! 35 herdsman/herdsmanref1.May -/
def herdsmanref1_May.qv (Q : Bool → World → Prop) (v : Value) (w : World) : Prop :=
  dB v fun r => Q r w
def herdsmanref1_May.call (w0_1 : Int) (h0 : Int) (w : World) (Q : Bool → World → Prop) : Prop := CallK P 35 #[.int .i64 w0_1, .int .i64 h0] w (herdsmanref1_May.qv Q)
theorem herdsmanref1_May.mono {w0_1 : Int} {h0 : Int} {w : World} {Q Q' : Bool → World → Prop} (hq : ∀ r w, Q r w → Q' r w) (h : herdsmanref1_May.call w0_1 h0 w Q) : herdsmanref1_May.call w0_1 h0 w Q' := by
  refine CallK.mono ?_ h
  intro v w' h0
  unfold herdsmanref1_May.qv at h0 ⊢
  obtain ⟨r, rfl, h1⟩ := dB_elim h0
  exact hq _ w' h1
end Go.Proofs.Ytbecldlnajlnnaa.S
