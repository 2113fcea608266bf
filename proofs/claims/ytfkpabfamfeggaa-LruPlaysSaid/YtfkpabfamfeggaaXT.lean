/- What the functions ask: the types' table, the calls. Printed by a program of this work (sxgen.py) out of the translation. -/
import Derived.Test.YtfkpabfamfeggaaProg
import Derived.Test.YtfkpabfamfeggaaSxE
set_option linter.unusedVariables false
set_option linter.unusedSimpArgs false
namespace Go.Proofs.Ytfkpabfamfeggaa.S
open Go.Sx
noncomputable abbrev P : Program := Go.Proofs.Try.prog
noncomputable def rows : List (Nat × TI) := [(0, ⟨.tup [], 1, 0, [.tuple #[]], []⟩),
  (3, ⟨.int .i64, 1, 8, [.int .i64 0], [.int .i64]⟩),
  (4, ⟨.bool, 1, 1, [.bool false], [.bool]⟩),
  (22, ⟨.slice 3, 1, 24, [.slice none 0 0], [.sl]⟩),
  (24, ⟨.ptr, 1, 8, [.pointer none], [.ptr]⟩),
  (26, ⟨.slice 29, 1, 24, [.slice none 0 0], [.sl]⟩),
  (27, ⟨.tup [3, 4, 4], 1, 0, [.tuple #[.int .i64 0, .bool false, .bool false]], []⟩),
  (29, ⟨.arr 2 3, 2, 16, [.int .i64 0, .int .i64 0], [.int .i64, .int .i64]⟩),
  (34, ⟨.slice 40, 1, 24, [.slice none 0 0], [.sl]⟩),
  (35, ⟨.ptr, 1, 8, [.pointer none], [.ptr]⟩),
  (36, ⟨.slice 56, 1, 24, [.slice none 0 0], [.sl]⟩),
  (38, ⟨.struct [(0, 3), (1, 36)], 2, 32, [.int .i64 0, .slice none 0 0], [.int .i64, .sl]⟩),
  (40, ⟨.struct [(0, 3), (1, 3), (2, 3)], 3, 24, [.int .i64 0, .int .i64 0, .int .i64 0], [.int .i64, .int .i64, .int .i64]⟩),
  (44, ⟨.arr 12 3, 12, 96, [.int .i64 0, .int .i64 0, .int .i64 0, .int .i64 0, .int .i64 0, .int .i64 0, .int .i64 0, .int .i64 0, .int .i64 0, .int .i64 0, .int .i64 0, .int .i64 0], [.int .i64, .int .i64, .int .i64, .int .i64, .int .i64, .int .i64, .int .i64, .int .i64, .int .i64, .int .i64, .int .i64, .int .i64]⟩),
  (47, ⟨.slice 54, 1, 24, [.slice none 0 0], [.sl]⟩),
  (48, ⟨.map, 1, 8, [.map none], [.map]⟩),
  (50, ⟨.struct [(0, 3), (1, 47), (2, 48), (3, 3), (4, 3)], 5, 56, [.int .i64 0, .slice none 0 0, .map none, .int .i64 0, .int .i64 0], [.int .i64, .sl, .map, .int .i64, .int .i64]⟩),
  (51, ⟨.tup [3, 4], 1, 0, [.tuple #[.int .i64 0, .bool false]], []⟩),
  (54, ⟨.struct [(0, 29), (2, 3), (3, 3)], 4, 32, [.int .i64 0, .int .i64 0, .int .i64 0, .int .i64 0], [.int .i64, .int .i64, .int .i64, .int .i64]⟩),
  (56, ⟨.struct [(0, 3), (1, 3), (2, 3)], 3, 24, [.int .i64 0, .int .i64 0, .int .i64 0], [.int .i64, .int .i64, .int .i64]⟩)]
noncomputable def T : Tab := tabOf rows
noncomputable def fns : List Nat := [3, 4, 5, 6, 7, 8, 9, 10, 11, 12, 13, 14, 15, 16, 17, 18, 19, 20, 21, 22]
noncomputable def cx (n : Nat) : Cx := ⟨P, T, fun f => memN f fns, n⟩
theorem rows_ok : rows.map (fun p => viewTI P p.1) = rows.map (fun p => some (p.2.d, p.2.size, p.2.bytes, p.2.zero)) := by kernel_rfl
theorem fns_ok : fnsB P fns = true := by kernel_rfl
theorem mixed_ok : P.follows .mixedOrders = true := by kernel_rfl
theorem ok (n : Nat) : OkCx (cx n) := okCx_of rows_ok fns_ok mixed_ok n
/-! 3 herdsman/herdsmanlaw18.LruLast -/
def herdsmanlaw18_LruLast.qv (Q : Bool → World → Prop) (v : Value) (w : World) : Prop :=
  dB v fun r => Q r w
def herdsmanlaw18_LruLast.call (k0 : Int) (l_a : Option Addr) (l_n : Nat) (l_c : Nat) (w : World) (Q : Bool → World → Prop) : Prop := CallK P 3 #[.int .i64 k0, .slice l_a l_n l_c] w (herdsmanlaw18_LruLast.qv Q)
theorem herdsmanlaw18_LruLast.mono {k0 : Int} {l_a : Option Addr} {l_n : Nat} {l_c : Nat} {w : World} {Q Q' : Bool → World → Prop} (hq : ∀ r w, Q r w → Q' r w) (h : herdsmanlaw18_LruLast.call k0 l_a l_n l_c w Q) : herdsmanlaw18_LruLast.call k0 l_a l_n l_c w Q' := by
  refine CallK.mono ?_ h
  intro v w' h0
  unfold herdsmanlaw18_LruLast.qv at h0 ⊢
  obtain ⟨r, rfl, h1⟩ := dB_elim h0
  exact hq _ w' h1
/-! 4 herdsman/herdsmanlaw18.LruPlays -/
def herdsmanlaw18_LruPlays.qv (Q : Bool → World → Prop) (v : Value) (w : World) : Prop :=
  dB v fun r => Q r w
def herdsmanlaw18_LruPlays.call (k0 : Int) (l_a : Option Addr) (l_n : Nat) (l_c : Nat) (any : Bool) (w : World) (Q : Bool → World → Prop) : Prop := CallK P 4 #[.int .i64 k0, .slice l_a l_n l_c, .bool any] w (herdsmanlaw18_LruPlays.qv Q)
theorem herdsmanlaw18_LruPlays.mono {k0 : Int} {l_a : Option Addr} {l_n : Nat} {l_c : Nat} {any : Bool} {w : World} {Q Q' : Bool → World → Prop} (hq : ∀ r w, Q r w → Q' r w) (h : herdsmanlaw18_LruPlays.call k0 l_a l_n l_c any w Q) : herdsmanlaw18_LruPlays.call k0 l_a l_n l_c any w Q' := by
  refine CallK.mono ?_ h
  intro v w' h0
  unfold herdsmanlaw18_LruPlays.qv at h0 ⊢
  obtain ⟨r, rfl, h1⟩ := dB_elim h0
  exact hq _ w' h1
/-! 5 herdsman/herdsmanlaw18.LruSlots -/
def herdsmanlaw18_LruSlots.qv (Q : Bool → World → Prop) (v : Value) (w : World) : Prop :=
  dB v fun r => Q r w
def herdsmanlaw18_LruSlots.call (k0 : Int) (l_a : Option Addr) (l_n : Nat) (l_c : Nat) (w : World) (Q : Bool → World → Prop) : Prop := CallK P 5 #[.int .i64 k0, .slice l_a l_n l_c] w (herdsmanlaw18_LruSlots.qv Q)
theorem herdsmanlaw18_LruSlots.mono {k0 : Int} {l_a : Option Addr} {l_n : Nat} {l_c : Nat} {w : World} {Q Q' : Bool → World → Prop} (hq : ∀ r w, Q r w → Q' r w) (h : herdsmanlaw18_LruSlots.call k0 l_a l_n l_c w Q) : herdsmanlaw18_LruSlots.call k0 l_a l_n l_c w Q' := by
  refine CallK.mono ?_ h
  intro v w' h0
  unfold herdsmanlaw18_LruSlots.qv at h0 ⊢
  obtain ⟨r, rfl, h1⟩ := dB_elim h0
  exact hq _ w' h1
/-! 6 herdsman/herdsmanlaw18.LruHuge -/
def herdsmanlaw18_LruHuge.qv (Q : Bool → World → Prop) (v : Value) (w : World) : Prop :=
  dB v fun r => Q r w
def herdsmanlaw18_LruHuge.call (k0 : Int) (l_a : Option Addr) (l_n : Nat) (l_c : Nat) (w : World) (Q : Bool → World → Prop) : Prop := CallK P 6 #[.int .i64 k0, .slice l_a l_n l_c] w (herdsmanlaw18_LruHuge.qv Q)
theorem herdsmanlaw18_LruHuge.mono {k0 : Int} {l_a : Option Addr} {l_n : Nat} {l_c : Nat} {w : World} {Q Q' : Bool → World → Prop} (hq : ∀ r w, Q r w → Q' r w) (h : herdsmanlaw18_LruHuge.call k0 l_a l_n l_c w Q) : herdsmanlaw18_LruHuge.call k0 l_a l_n l_c w Q' := by
  refine CallK.mono ?_ h
  intro v w' h0
  unfold herdsmanlaw18_LruHuge.qv at h0 ⊢
  obtain ⟨r, rfl, h1⟩ := dB_elim h0
  exact hq _ w' h1
/-! 7 herdsman/herdsmanlaw18.LruNone -/
def herdsmanlaw18_LruNone.qv (Q : Bool → World → Prop) (v : Value) (w : World) : Prop :=
  dB v fun r => Q r w
def herdsmanlaw18_LruNone.call (a : Int) (b : Int) (w : World) (Q : Bool → World → Prop) : Prop := CallK P 7 #[.int .i64 a, .int .i64 b] w (herdsmanlaw18_LruNone.qv Q)
theorem herdsmanlaw18_LruNone.mono {a : Int} {b : Int} {w : World} {Q Q' : Bool → World → Prop} (hq : ∀ r w, Q r w → Q' r w) (h : herdsmanlaw18_LruNone.call a b w Q) : herdsmanlaw18_LruNone.call a b w Q' := by
  refine CallK.mono ?_ h
  intro v w' h0
  unfold herdsmanlaw18_LruNone.qv at h0 ⊢
  obtain ⟨r, rfl, h1⟩ := dB_elim h0
  exact hq _ w' h1
/-! 8 herdsman/herdsmanref1.Within -/
def herdsmanref1_Within.qv (Q : Int → World → Prop) (v : Value) (w : World) : Prop :=
  dI .i64 v fun r => Q r w
def herdsmanref1_Within.call (n : Int) (lo : Int) (hi : Int) (w : World) (Q : Int → World → Prop) : Prop := CallK P 8 #[.int .i64 n, .int .i64 lo, .int .i64 hi] w (herdsmanref1_Within.qv Q)
theorem herdsmanref1_Within.mono {n : Int} {lo : Int} {hi : Int} {w : World} {Q Q' : Int → World → Prop} (hq : ∀ r w, Q r w → Q' r w) (h : herdsmanref1_Within.call n lo hi w Q) : herdsmanref1_Within.call n lo hi w Q' := by
  refine CallK.mono ?_ h
  intro v w' h0
  unfold herdsmanref1_Within.qv at h0 ⊢
  obtain ⟨r, rfl, h1⟩ := dI_elim h0
  exact hq _ w' h1
/-! 9 herdsman/lru.New -/
def lru_New.qv (Q : Option Addr → World → Prop) (v : Value) (w : World) : Prop :=
  dP v fun r => Q r w
def lru_New.call (k0 : Int) (w : World) (Q : Option Addr → World → Prop) : Prop := CallK P 9 #[.int .i64 k0] w (lru_New.qv Q)
theorem lru_New.mono {k0 : Int} {w : World} {Q Q' : Option Addr → World → Prop} (hq : ∀ r w, Q r w → Q' r w) (h : lru_New.call k0 w Q) : lru_New.call k0 w Q' := by
  refine CallK.mono ?_ h
  intro v w' h0
  unfold lru_New.qv at h0 ⊢
  obtain ⟨r, rfl, h1⟩ := dP_elim h0
  exact hq _ w' h1
/-! 10 (*herdsman/lru.Lru).Use -/
def lru_Lru_Use.qv (Q : Int → Bool → Bool → World → Prop) (v : Value) (w : World) : Prop :=
  dT v fun r_l => dCons r_l fun r_v0 r_l0 => dI .i64 r_v0 fun r_0 => dCons r_l0 fun r_v1 r_l1 => dB r_v1 fun r_1 => dCons r_l1 fun r_v2 r_l2 => dB r_v2 fun r_2 => dNil r_l2 <| Q r_0 r_1 r_2 w
def lru_Lru_Use.call (l : Option Addr) (a : Int) (b : Int) (w : World) (Q : Int → Bool → Bool → World → Prop) : Prop := CallK P 10 #[.pointer l, .int .i64 a, .int .i64 b] w (lru_Lru_Use.qv Q)
theorem lru_Lru_Use.mono {l : Option Addr} {a : Int} {b : Int} {w : World} {Q Q' : Int → Bool → Bool → World → Prop} (hq : ∀ r r_1 r_2 w, Q r r_1 r_2 w → Q' r r_1 r_2 w) (h : lru_Lru_Use.call l a b w Q) : lru_Lru_Use.call l a b w Q' := by
  refine CallK.mono ?_ h
  intro v w' h0
  unfold lru_Lru_Use.qv at h0 ⊢
  obtain ⟨r_l, rfl, h1⟩ := dT_elim h0
  obtain ⟨r_v0, r_l0, rfl, h2⟩ := dCons_elim h1
  obtain ⟨r_0, rfl, h3⟩ := dI_elim h2
  obtain ⟨r_v1, r_l1, rfl, h4⟩ := dCons_elim h3
  obtain ⟨r_1, rfl, h5⟩ := dB_elim h4
  obtain ⟨r_v2, r_l2, rfl, h6⟩ := dCons_elim h5
  obtain ⟨r_2, rfl, h7⟩ := dB_elim h6
  obtain ⟨rfl, h8⟩ := dNil_elim h7
  exact hq _ _ _ w' h8
/-! 11 herdsman/herdsmanlaw18.told -/
def herdsmanlaw18_told.qv (Q : Bool → World → Prop) (v : Value) (w : World) : Prop :=
  dB v fun r => Q r w
def herdsmanlaw18_told.call (w : World) (Q : Bool → World → Prop) : Prop := CallK P 11 #[] w (herdsmanlaw18_told.qv Q)
theorem herdsmanlaw18_told.mono {w : World} {Q Q' : Bool → World → Prop} (hq : ∀ r w, Q r w → Q' r w) (h : herdsmanlaw18_told.call w Q) : herdsmanlaw18_told.call w Q' := by
  refine CallK.mono ?_ h
  intro v w' h0
  unfold herdsmanlaw18_told.qv at h0 ⊢
  obtain ⟨r, rfl, h1⟩ := dB_elim h0
  exact hq _ w' h1
/-! 12 herdsman/herdsmanref18.SameKeys -/
def herdsmanref18_SameKeys.qv (Q : Bool → World → Prop) (v : Value) (w : World) : Prop :=
  dB v fun r => Q r w
def herdsmanref18_SameKeys.call (a_a : Option Addr) (a_n : Nat) (a_c : Nat) (b_a : Option Addr) (b_n : Nat) (b_c : Nat) (w : World) (Q : Bool → World → Prop) : Prop := CallK P 12 #[.slice a_a a_n a_c, .slice b_a b_n b_c] w (herdsmanref18_SameKeys.qv Q)
theorem herdsmanref18_SameKeys.mono {a_a : Option Addr} {a_n : Nat} {a_c : Nat} {b_a : Option Addr} {b_n : Nat} {b_c : Nat} {w : World} {Q Q' : Bool → World → Prop} (hq : ∀ r w, Q r w → Q' r w) (h : herdsmanref18_SameKeys.call a_a a_n a_c b_a b_n b_c w Q) : herdsmanref18_SameKeys.call a_a a_n a_c b_a b_n b_c w Q' := by
  refine CallK.mono ?_ h
  intro v w' h0
  unfold herdsmanref18_SameKeys.qv at h0 ⊢
  obtain ⟨r, rfl, h1⟩ := dB_elim h0
  exact hq _ w' h1
/-! 13 (*herdsman/lru.Lru).Keys -/
def lru_Lru_Keys.qv (Q : Option Addr → Nat → Nat → World → Prop) (v : Value) (w : World) : Prop :=
  dS v fun r_a r_n r_c => Q r_a r_n r_c w
def lru_Lru_Keys.call (l : Option Addr) (w : World) (Q : Option Addr → Nat → Nat → World → Prop) : Prop := CallK P 13 #[.pointer l] w (lru_Lru_Keys.qv Q)
theorem lru_Lru_Keys.mono {l : Option Addr} {w : World} {Q Q' : Option Addr → Nat → Nat → World → Prop} (hq : ∀ r_a r_n r_c w, Q r_a r_n r_c w → Q' r_a r_n r_c w) (h : lru_Lru_Keys.call l w Q) : lru_Lru_Keys.call l w Q' := by
  refine CallK.mono ?_ h
  intro v w' h0
  unfold lru_Lru_Keys.qv at h0 ⊢
  obtain ⟨r_a, r_n, r_c, rfl, h1⟩ := dS_elim h0
  exact hq _ _ _ w' h1
/-! 14 (*herdsman/lru.Lru).Clear -/
def lru_Lru_Clear.qv (Q : World → Prop) (v : Value) (w : World) : Prop :=
  dT v fun r_l => dNil r_l <| Q w
def lru_Lru_Clear.call (l : Option Addr) (w : World) (Q : World → Prop) : Prop := CallK P 14 #[.pointer l] w (lru_Lru_Clear.qv Q)
theorem lru_Lru_Clear.mono {l : Option Addr} {w : World} {Q Q' : World → Prop} (hq : ∀ w, Q w → Q' w) (h : lru_Lru_Clear.call l w Q) : lru_Lru_Clear.call l w Q' := by
  refine CallK.mono ?_ h
  intro v w' h0
  unfold lru_Lru_Clear.qv at h0 ⊢
  obtain ⟨r_l, rfl, h1⟩ := dT_elim h0
  obtain ⟨rfl, h2⟩ := dNil_elim h1
  exact hq w' h2
/-! 15 (*herdsman/lru.Lru).Find -/
def lru_Lru_Find.qv (Q : Int → World → Prop) (v : Value) (w : World) : Prop :=
  dI .i64 v fun r => Q r w
def lru_Lru_Find.call (l : Option Addr) (a : Int) (b : Int) (w : World) (Q : Int → World → Prop) : Prop := CallK P 15 #[.pointer l, .int .i64 a, .int .i64 b] w (lru_Lru_Find.qv Q)
theorem lru_Lru_Find.mono {l : Option Addr} {a : Int} {b : Int} {w : World} {Q Q' : Int → World → Prop} (hq : ∀ r w, Q r w → Q' r w) (h : lru_Lru_Find.call l a b w Q) : lru_Lru_Find.call l a b w Q' := by
  refine CallK.mono ?_ h
  intro v w' h0
  unfold lru_Lru_Find.qv at h0 ⊢
  obtain ⟨r, rfl, h1⟩ := dI_elim h0
  exact hq _ w' h1
/-! 16 (*herdsman/herdsmanref18.Lru).Find -/
def herdsmanref18_Lru_Find.qv (Q : Int → World → Prop) (v : Value) (w : World) : Prop :=
  dI .i64 v fun r => Q r w
def herdsmanref18_Lru_Find.call (l : Option Addr) (a : Int) (b : Int) (w : World) (Q : Int → World → Prop) : Prop := CallK P 16 #[.pointer l, .int .i64 a, .int .i64 b] w (herdsmanref18_Lru_Find.qv Q)
theorem herdsmanref18_Lru_Find.mono {l : Option Addr} {a : Int} {b : Int} {w : World} {Q Q' : Int → World → Prop} (hq : ∀ r w, Q r w → Q' r w) (h : herdsmanref18_Lru_Find.call l a b w Q) : herdsmanref18_Lru_Find.call l a b w Q' := by
  refine CallK.mono ?_ h
  intro v w' h0
  unfold herdsmanref18_Lru_Find.qv at h0 ⊢
  obtain ⟨r, rfl, h1⟩ := dI_elim h0
  exact hq _ w' h1
/-! 17 (*herdsman/herdsmanref18.Lru).Use -/
def herdsmanref18_Lru_Use.qv (Q : Int → Bool → Bool → World → Prop) (v : Value) (w : World) : Prop :=
  dT v fun r_l => dCons r_l fun r_v0 r_l0 => dI .i64 r_v0 fun r_0 => dCons r_l0 fun r_v1 r_l1 => dB r_v1 fun r_1 => dCons r_l1 fun r_v2 r_l2 => dB r_v2 fun r_2 => dNil r_l2 <| Q r_0 r_1 r_2 w
def herdsmanref18_Lru_Use.call (l : Option Addr) (a : Int) (b : Int) (w : World) (Q : Int → Bool → Bool → World → Prop) : Prop := CallK P 17 #[.pointer l, .int .i64 a, .int .i64 b] w (herdsmanref18_Lru_Use.qv Q)
theorem herdsmanref18_Lru_Use.mono {l : Option Addr} {a : Int} {b : Int} {w : World} {Q Q' : Int → Bool → Bool → World → Prop} (hq : ∀ r r_1 r_2 w, Q r r_1 r_2 w → Q' r r_1 r_2 w) (h : herdsmanref18_Lru_Use.call l a b w Q) : herdsmanref18_Lru_Use.call l a b w Q' := by
  refine CallK.mono ?_ h
  intro v w' h0
  unfold herdsmanref18_Lru_Use.qv at h0 ⊢
  obtain ⟨r_l, rfl, h1⟩ := dT_elim h0
  obtain ⟨r_v0, r_l0, rfl, h2⟩ := dCons_elim h1
  obtain ⟨r_0, rfl, h3⟩ := dI_elim h2
  obtain ⟨r_v1, r_l1, rfl, h4⟩ := dCons_elim h3
  obtain ⟨r_1, rfl, h5⟩ := dB_elim h4
  obtain ⟨r_v2, r_l2, rfl, h6⟩ := dCons_elim h5
  obtain ⟨r_2, rfl, h7⟩ := dB_elim h6
  obtain ⟨rfl, h8⟩ := dNil_elim h7
  exact hq _ _ _ w' h8
/-! 18 (*herdsman/lru.Lru).Len -/
def lru_Lru_Len.qv (Q : Int → World → Prop) (v : Value) (w : World) : Prop :=
  dI .i64 v fun r => Q r w
def lru_Lru_Len.call (l : Option Addr) (w : World) (Q : Int → World → Prop) : Prop := CallK P 18 #[.pointer l] w (lru_Lru_Len.qv Q)
theorem lru_Lru_Len.mono {l : Option Addr} {w : World} {Q Q' : Int → World → Prop} (hq : ∀ r w, Q r w → Q' r w) (h : lru_Lru_Len.call l w Q) : lru_Lru_Len.call l w Q' := by
  refine CallK.mono ?_ h
  intro v w' h0
  unfold lru_Lru_Len.qv at h0 ⊢
  obtain ⟨r, rfl, h1⟩ := dI_elim h0
  exact hq _ w' h1
/-! 19 (*herdsman/herdsmanref18.Lru).Keys -/
def herdsmanref18_Lru_Keys.qv (Q : Option Addr → Nat → Nat → World → Prop) (v : Value) (w : World) : Prop :=
  dS v fun r_a r_n r_c => Q r_a r_n r_c w
def herdsmanref18_Lru_Keys.call (l : Option Addr) (w : World) (Q : Option Addr → Nat → Nat → World → Prop) : Prop := CallK P 19 #[.pointer l] w (herdsmanref18_Lru_Keys.qv Q)
theorem herdsmanref18_Lru_Keys.mono {l : Option Addr} {w : World} {Q Q' : Option Addr → Nat → Nat → World → Prop} (hq : ∀ r_a r_n r_c w, Q r_a r_n r_c w → Q' r_a r_n r_c w) (h : herdsmanref18_Lru_Keys.call l w Q) : herdsmanref18_Lru_Keys.call l w Q' := by
  refine CallK.mono ?_ h
  intro v w' h0
  unfold herdsmanref18_Lru_Keys.qv at h0 ⊢
  obtain ⟨r_a, r_n, r_c, rfl, h1⟩ := dS_elim h0
  exact hq _ _ _ w' h1
/-! 20 (*herdsman/lru.Lru).unlink -/
def lru_Lru_unlink.qv (Q : World → Prop) (v : Value) (w : World) : Prop :=
  dT v fun r_l => dNil r_l <| Q w
def lru_Lru_unlink.call (l : Option Addr) (slot : Int) (w : World) (Q : World → Prop) : Prop := CallK P 20 #[.pointer l, .int .i64 slot] w (lru_Lru_unlink.qv Q)
theorem lru_Lru_unlink.mono {l : Option Addr} {slot : Int} {w : World} {Q Q' : World → Prop} (hq : ∀ w, Q w → Q' w) (h : lru_Lru_unlink.call l slot w Q) : lru_Lru_unlink.call l slot w Q' := by
  refine CallK.mono ?_ h
  intro v w' h0
  unfold lru_Lru_unlink.qv at h0 ⊢
  obtain ⟨r_l, rfl, h1⟩ := dT_elim h0
  obtain ⟨rfl, h2⟩ := dNil_elim h1
  exact hq w' h2
/-! 21 (*herdsman/lru.Lru).link -/
def lru_Lru_link.qv (Q : World → Prop) (v : Value) (w : World) : Prop :=
  dT v fun r_l => dNil r_l <| Q w
def lru_Lru_link.call (l : Option Addr) (slot : Int) (w : World) (Q : World → Prop) : Prop := CallK P 21 #[.pointer l, .int .i64 slot] w (lru_Lru_link.qv Q)
theorem lru_Lru_link.mono {l : Option Addr} {slot : Int} {w : World} {Q Q' : World → Prop} (hq : ∀ w, Q w → Q' w) (h : lru_Lru_link.call l slot w Q) : lru_Lru_link.call l slot w Q' := by
  refine CallK.mono ?_ h
  intro v w' h0
  unfold lru_Lru_link.qv at h0 ⊢
  obtain ⟨r_l, rfl, h1⟩ := dT_elim h0
  obtain ⟨rfl, h2⟩ := dNil_elim h1
  exact hq w' h2
/-! 22 (*herdsman/herdsmanref18.Lru).free -/
def herdsmanref18_Lru_free.qv (Q : Int → World → Prop) (v : Value) (w : World) : Prop :=
  dI .i64 v fun r => Q r w
def herdsmanref18_Lru_free.call (l : Option Addr) (w : World) (Q : Int → World → Prop) : Prop := CallK P 22 #[.pointer l] w (herdsmanref18_Lru_free.qv Q)
theorem herdsmanref18_Lru_free.mono {l : Option Addr} {w : World} {Q Q' : Int → World → Prop} (hq : ∀ r w, Q r w → Q' r w) (h : herdsmanref18_Lru_free.call l w Q) : herdsmanref18_Lru_free.call l w Q' := by
  refine CallK.mono ?_ h
  intro v w' h0
  unfold herdsmanref18_Lru_free.qv at h0 ⊢
  obtain ⟨r, rfl, h1⟩ := dI_elim h0
  exact hq _ w' h1
end Go.Proofs.Ytfkpabfamfeggaa.S
