/- What the functions ask: the types' table, the calls. Printed by a program of this work (sxgen.py) out of the translation. -/
import Derived.Test.YthelhikocaeecaaProg
import Derived.Test.YthelhikocaeecaaSxE
set_option linter.unusedVariables false
set_option linter.unusedSimpArgs false
namespace Go.Proofs.Ythelhikocaeecaa.S
open Go.Sx
noncomputable abbrev P : Program := Go.Proofs.Try.prog
noncomputable def rows : List (Nat × TI) := [(3, ⟨.int .i64, 1, 8, [.int .i64 0], [.int .i64]⟩),
  (4, ⟨.bool, 1, 1, [.bool false], [.bool]⟩),
  (5, ⟨.int .u8, 1, 1, [.int .u8 0], [.int .u8]⟩),
  (9, ⟨.str, 1, 16, [.string .empty], [.str]⟩),
  (22, ⟨.int .u64, 1, 8, [.int .u64 0], [.int .u64]⟩),
  (28, ⟨.struct [(0, 22), (1, 22), (2, 22), (3, 22), (4, 22), (5, 22)], 6, 48, [.int .u64 0, .int .u64 0, .int .u64 0, .int .u64 0, .int .u64 0, .int .u64 0], [.int .u64, .int .u64, .int .u64, .int .u64, .int .u64, .int .u64]⟩),
  (31, ⟨.slice 5, 1, 24, [.slice none 0 0], [.sl]⟩),
  (33, ⟨.arr 6 22, 6, 48, [.int .u64 0, .int .u64 0, .int .u64 0, .int .u64 0, .int .u64 0, .int .u64 0], [.int .u64, .int .u64, .int .u64, .int .u64, .int .u64, .int .u64]⟩)]
noncomputable def T : Tab := tabOf rows
noncomputable def fns : List Nat := [3, 4, 5, 6, 7, 8, 9, 10, 11, 12, 13]
noncomputable def cx (n : Nat) : Cx := ⟨P, T, fun f => memN f fns, n⟩
theorem rows_ok : rows.map (fun p => viewTI P p.1) = rows.map (fun p => some (p.2.d, p.2.size, p.2.bytes, p.2.zero)) := by kernel_rfl
theorem fns_ok : fnsB P fns = true := by kernel_rfl
theorem mixed_ok : P.follows .mixedOrders = true := by kernel_rfl
theorem ok (n : Nat) : OkCx (cx n) := okCx_of rows_ok fns_ok mixed_ok n
/-! 3 herdsman/herdsmanlaw6.TallyAdds -/
def herdsmanlaw6_TallyAdds.qv (Q : Bool → World → Prop) (v : Value) (w : World) : Prop :=
  dB v fun r => Q r w
def herdsmanlaw6_TallyAdds.call (a : Int) (b : Int) (w : World) (Q : Bool → World → Prop) : Prop := CallK P 3 #[.int .u64 a, .int .u64 b] w (herdsmanlaw6_TallyAdds.qv Q)
theorem herdsmanlaw6_TallyAdds.mono {a : Int} {b : Int} {w : World} {Q Q' : Bool → World → Prop} (hq : ∀ r w, Q r w → Q' r w) (h : herdsmanlaw6_TallyAdds.call a b w Q) : herdsmanlaw6_TallyAdds.call a b w Q' := by
  refine CallK.mono ?_ h
  intro v w' h0
  unfold herdsmanlaw6_TallyAdds.qv at h0 ⊢
  obtain ⟨r, rfl, h1⟩ := dB_elim h0
  exact hq _ w' h1
/-! 4 herdsman/herdsmanlaw6.TallyThree -/
def herdsmanlaw6_TallyThree.qv (Q : Bool → World → Prop) (v : Value) (w : World) : Prop :=
  dB v fun r => Q r w
def herdsmanlaw6_TallyThree.call (a : Int) (b : Int) (c : Int) (w : World) (Q : Bool → World → Prop) : Prop := CallK P 4 #[.int .u64 a, .int .u64 b, .int .u64 c] w (herdsmanlaw6_TallyThree.qv Q)
theorem herdsmanlaw6_TallyThree.mono {a : Int} {b : Int} {c : Int} {w : World} {Q Q' : Bool → World → Prop} (hq : ∀ r w, Q r w → Q' r w) (h : herdsmanlaw6_TallyThree.call a b c w Q) : herdsmanlaw6_TallyThree.call a b c w Q' := by
  refine CallK.mono ?_ h
  intro v w' h0
  unfold herdsmanlaw6_TallyThree.qv at h0 ⊢
  obtain ⟨r, rfl, h1⟩ := dB_elim h0
  exact hq _ w' h1
/-! 5 herdsman/herdsmanlaw6.TallyOrder -/
def herdsmanlaw6_TallyOrder.qv (Q : Bool → World → Prop) (v : Value) (w : World) : Prop :=
  dB v fun r => Q r w
def herdsmanlaw6_TallyOrder.call (a_Rebuilds : Int) (a_Searches : Int) (a_Builds : Int) (a_Hits : Int) (a_Stale : Int) (a_Evicts : Int) (b_Rebuilds : Int) (b_Searches : Int) (b_Builds : Int) (b_Hits : Int) (b_Stale : Int) (b_Evicts : Int) (at0 : Int) (by0 : Int) (one : Bool) (w : World) (Q : Bool → World → Prop) : Prop := CallK P 5 #[.agg #[.int .u64 a_Rebuilds, .int .u64 a_Searches, .int .u64 a_Builds, .int .u64 a_Hits, .int .u64 a_Stale, .int .u64 a_Evicts], .agg #[.int .u64 b_Rebuilds, .int .u64 b_Searches, .int .u64 b_Builds, .int .u64 b_Hits, .int .u64 b_Stale, .int .u64 b_Evicts], .int .i64 at0, .int .u64 by0, .bool one] w (herdsmanlaw6_TallyOrder.qv Q)
theorem herdsmanlaw6_TallyOrder.mono {a_Rebuilds : Int} {a_Searches : Int} {a_Builds : Int} {a_Hits : Int} {a_Stale : Int} {a_Evicts : Int} {b_Rebuilds : Int} {b_Searches : Int} {b_Builds : Int} {b_Hits : Int} {b_Stale : Int} {b_Evicts : Int} {at0 : Int} {by0 : Int} {one : Bool} {w : World} {Q Q' : Bool → World → Prop} (hq : ∀ r w, Q r w → Q' r w) (h : herdsmanlaw6_TallyOrder.call a_Rebuilds a_Searches a_Builds a_Hits a_Stale a_Evicts b_Rebuilds b_Searches b_Builds b_Hits b_Stale b_Evicts at0 by0 one w Q) : herdsmanlaw6_TallyOrder.call a_Rebuilds a_Searches a_Builds a_Hits a_Stale a_Evicts b_Rebuilds b_Searches b_Builds b_Hits b_Stale b_Evicts at0 by0 one w Q' := by
  refine CallK.mono ?_ h
  intro v w' h0
  unfold herdsmanlaw6_TallyOrder.qv at h0 ⊢
  obtain ⟨r, rfl, h1⟩ := dB_elim h0
  exact hq _ w' h1
/-! 6 herdsman/herdsmanlaw6.TallyBytes -/
def herdsmanlaw6_TallyBytes.qv (Q : Bool → World → Prop) (v : Value) (w : World) : Prop :=
  dB v fun r => Q r w
def herdsmanlaw6_TallyBytes.call (a_Rebuilds : Int) (a_Searches : Int) (a_Builds : Int) (a_Hits : Int) (a_Stale : Int) (a_Evicts : Int) (b_Rebuilds : Int) (b_Searches : Int) (b_Builds : Int) (b_Hits : Int) (b_Stale : Int) (b_Evicts : Int) (w : World) (Q : Bool → World → Prop) : Prop := CallK P 6 #[.agg #[.int .u64 a_Rebuilds, .int .u64 a_Searches, .int .u64 a_Builds, .int .u64 a_Hits, .int .u64 a_Stale, .int .u64 a_Evicts], .agg #[.int .u64 b_Rebuilds, .int .u64 b_Searches, .int .u64 b_Builds, .int .u64 b_Hits, .int .u64 b_Stale, .int .u64 b_Evicts]] w (herdsmanlaw6_TallyBytes.qv Q)
theorem herdsmanlaw6_TallyBytes.mono {a_Rebuilds : Int} {a_Searches : Int} {a_Builds : Int} {a_Hits : Int} {a_Stale : Int} {a_Evicts : Int} {b_Rebuilds : Int} {b_Searches : Int} {b_Builds : Int} {b_Hits : Int} {b_Stale : Int} {b_Evicts : Int} {w : World} {Q Q' : Bool → World → Prop} (hq : ∀ r w, Q r w → Q' r w) (h : herdsmanlaw6_TallyBytes.call a_Rebuilds a_Searches a_Builds a_Hits a_Stale a_Evicts b_Rebuilds b_Searches b_Builds b_Hits b_Stale b_Evicts w Q) : herdsmanlaw6_TallyBytes.call a_Rebuilds a_Searches a_Builds a_Hits a_Stale a_Evicts b_Rebuilds b_Searches b_Builds b_Hits b_Stale b_Evicts w Q' := by
  refine CallK.mono ?_ h
  intro v w' h0
  unfold herdsmanlaw6_TallyBytes.qv at h0 ⊢
  obtain ⟨r, rfl, h1⟩ := dB_elim h0
  exact hq _ w' h1
/-! 7 herdsman/herdsmanlaw6.TallySums -/
def herdsmanlaw6_TallySums.qv (Q : Bool → World → Prop) (v : Value) (w : World) : Prop :=
  dB v fun r => Q r w
def herdsmanlaw6_TallySums.call (a_Rebuilds : Int) (a_Searches : Int) (a_Builds : Int) (a_Hits : Int) (a_Stale : Int) (a_Evicts : Int) (b_Rebuilds : Int) (b_Searches : Int) (b_Builds : Int) (b_Hits : Int) (b_Stale : Int) (b_Evicts : Int) (w : World) (Q : Bool → World → Prop) : Prop := CallK P 7 #[.agg #[.int .u64 a_Rebuilds, .int .u64 a_Searches, .int .u64 a_Builds, .int .u64 a_Hits, .int .u64 a_Stale, .int .u64 a_Evicts], .agg #[.int .u64 b_Rebuilds, .int .u64 b_Searches, .int .u64 b_Builds, .int .u64 b_Hits, .int .u64 b_Stale, .int .u64 b_Evicts]] w (herdsmanlaw6_TallySums.qv Q)
theorem herdsmanlaw6_TallySums.mono {a_Rebuilds : Int} {a_Searches : Int} {a_Builds : Int} {a_Hits : Int} {a_Stale : Int} {a_Evicts : Int} {b_Rebuilds : Int} {b_Searches : Int} {b_Builds : Int} {b_Hits : Int} {b_Stale : Int} {b_Evicts : Int} {w : World} {Q Q' : Bool → World → Prop} (hq : ∀ r w, Q r w → Q' r w) (h : herdsmanlaw6_TallySums.call a_Rebuilds a_Searches a_Builds a_Hits a_Stale a_Evicts b_Rebuilds b_Searches b_Builds b_Hits b_Stale b_Evicts w Q) : herdsmanlaw6_TallySums.call a_Rebuilds a_Searches a_Builds a_Hits a_Stale a_Evicts b_Rebuilds b_Searches b_Builds b_Hits b_Stale b_Evicts w Q' := by
  refine CallK.mono ?_ h
  intro v w' h0
  unfold herdsmanlaw6_TallySums.qv at h0 ⊢
  obtain ⟨r, rfl, h1⟩ := dB_elim h0
  exact hq _ w' h1
/-! 8 herdsman/tally.Add -/
def tally_Add.qv (Q : Int → World → Prop) (v : Value) (w : World) : Prop :=
  dI .u64 v fun r => Q r w
def tally_Add.call (a : Int) (b : Int) (w : World) (Q : Int → World → Prop) : Prop := CallK P 8 #[.int .u64 a, .int .u64 b] w (tally_Add.qv Q)
theorem tally_Add.mono {a : Int} {b : Int} {w : World} {Q Q' : Int → World → Prop} (hq : ∀ r w, Q r w → Q' r w) (h : tally_Add.call a b w Q) : tally_Add.call a b w Q' := by
  refine CallK.mono ?_ h
  intro v w' h0
  unfold tally_Add.qv at h0 ⊢
  obtain ⟨r, rfl, h1⟩ := dI_elim h0
  exact hq _ w' h1
/-! 9 herdsman/herdsmanlaw6.told -/
def herdsmanlaw6_told.qv (Q : Bool → World → Prop) (v : Value) (w : World) : Prop :=
  dB v fun r => Q r w
def herdsmanlaw6_told.call (w : World) (Q : Bool → World → Prop) : Prop := CallK P 9 #[] w (herdsmanlaw6_told.qv Q)
theorem herdsmanlaw6_told.mono {w : World} {Q Q' : Bool → World → Prop} (hq : ∀ r w, Q r w → Q' r w) (h : herdsmanlaw6_told.call w Q) : herdsmanlaw6_told.call w Q' := by
  refine CallK.mono ?_ h
  intro v w' h0
  unfold herdsmanlaw6_told.qv at h0 ⊢
  obtain ⟨r, rfl, h1⟩ := dB_elim h0
  exact hq _ w' h1
/-! 10 herdsman/tally.Below -/
def tally_Below.qv (Q : Bool → World → Prop) (v : Value) (w : World) : Prop :=
  dB v fun r => Q r w
def tally_Below.call (a_Rebuilds : Int) (a_Searches : Int) (a_Builds : Int) (a_Hits : Int) (a_Stale : Int) (a_Evicts : Int) (b_Rebuilds : Int) (b_Searches : Int) (b_Builds : Int) (b_Hits : Int) (b_Stale : Int) (b_Evicts : Int) (w : World) (Q : Bool → World → Prop) : Prop := CallK P 10 #[.agg #[.int .u64 a_Rebuilds, .int .u64 a_Searches, .int .u64 a_Builds, .int .u64 a_Hits, .int .u64 a_Stale, .int .u64 a_Evicts], .agg #[.int .u64 b_Rebuilds, .int .u64 b_Searches, .int .u64 b_Builds, .int .u64 b_Hits, .int .u64 b_Stale, .int .u64 b_Evicts]] w (tally_Below.qv Q)
theorem tally_Below.mono {a_Rebuilds : Int} {a_Searches : Int} {a_Builds : Int} {a_Hits : Int} {a_Stale : Int} {a_Evicts : Int} {b_Rebuilds : Int} {b_Searches : Int} {b_Builds : Int} {b_Hits : Int} {b_Stale : Int} {b_Evicts : Int} {w : World} {Q Q' : Bool → World → Prop} (hq : ∀ r w, Q r w → Q' r w) (h : tally_Below.call a_Rebuilds a_Searches a_Builds a_Hits a_Stale a_Evicts b_Rebuilds b_Searches b_Builds b_Hits b_Stale b_Evicts w Q) : tally_Below.call a_Rebuilds a_Searches a_Builds a_Hits a_Stale a_Evicts b_Rebuilds b_Searches b_Builds b_Hits b_Stale b_Evicts w Q' := by
  refine CallK.mono ?_ h
  intro v w' h0
  unfold tally_Below.qv at h0 ⊢
  obtain ⟨r, rfl, h1⟩ := dB_elim h0
  exact hq _ w' h1
/-! 11 herdsman/tally.Bytes -/
def tally_Bytes.qv (Q : Option Addr → Nat → Nat → World → Prop) (v : Value) (w : World) : Prop :=
  dS v fun r_a r_n r_c => Q r_a r_n r_c w
def tally_Bytes.call (s_Rebuilds : Int) (s_Searches : Int) (s_Builds : Int) (s_Hits : Int) (s_Stale : Int) (s_Evicts : Int) (w : World) (Q : Option Addr → Nat → Nat → World → Prop) : Prop := CallK P 11 #[.agg #[.int .u64 s_Rebuilds, .int .u64 s_Searches, .int .u64 s_Builds, .int .u64 s_Hits, .int .u64 s_Stale, .int .u64 s_Evicts]] w (tally_Bytes.qv Q)
theorem tally_Bytes.mono {s_Rebuilds : Int} {s_Searches : Int} {s_Builds : Int} {s_Hits : Int} {s_Stale : Int} {s_Evicts : Int} {w : World} {Q Q' : Option Addr → Nat → Nat → World → Prop} (hq : ∀ r_a r_n r_c w, Q r_a r_n r_c w → Q' r_a r_n r_c w) (h : tally_Bytes.call s_Rebuilds s_Searches s_Builds s_Hits s_Stale s_Evicts w Q) : tally_Bytes.call s_Rebuilds s_Searches s_Builds s_Hits s_Stale s_Evicts w Q' := by
  refine CallK.mono ?_ h
  intro v w' h0
  unfold tally_Bytes.qv at h0 ⊢
  obtain ⟨r_a, r_n, r_c, rfl, h1⟩ := dS_elim h0
  exact hq _ _ _ w' h1
/-! 12 herdsman/tally.Sum -/
def tally_Sum.qv (Q : Int → Int → Int → Int → Int → Int → World → Prop) (v : Value) (w : World) : Prop :=
  dL v fun r_l => dCons r_l fun r_v0 r_l0 => dI .u64 r_v0 fun r_0 => dCons r_l0 fun r_v1 r_l1 => dI .u64 r_v1 fun r_1 => dCons r_l1 fun r_v2 r_l2 => dI .u64 r_v2 fun r_2 => dCons r_l2 fun r_v3 r_l3 => dI .u64 r_v3 fun r_3 => dCons r_l3 fun r_v4 r_l4 => dI .u64 r_v4 fun r_4 => dCons r_l4 fun r_v5 r_l5 => dI .u64 r_v5 fun r_5 => dNil r_l5 <| Q r_0 r_1 r_2 r_3 r_4 r_5 w
def tally_Sum.call (a_Rebuilds : Int) (a_Searches : Int) (a_Builds : Int) (a_Hits : Int) (a_Stale : Int) (a_Evicts : Int) (b_Rebuilds : Int) (b_Searches : Int) (b_Builds : Int) (b_Hits : Int) (b_Stale : Int) (b_Evicts : Int) (w : World) (Q : Int → Int → Int → Int → Int → Int → World → Prop) : Prop := CallK P 12 #[.agg #[.int .u64 a_Rebuilds, .int .u64 a_Searches, .int .u64 a_Builds, .int .u64 a_Hits, .int .u64 a_Stale, .int .u64 a_Evicts], .agg #[.int .u64 b_Rebuilds, .int .u64 b_Searches, .int .u64 b_Builds, .int .u64 b_Hits, .int .u64 b_Stale, .int .u64 b_Evicts]] w (tally_Sum.qv Q)
theorem tally_Sum.mono {a_Rebuilds : Int} {a_Searches : Int} {a_Builds : Int} {a_Hits : Int} {a_Stale : Int} {a_Evicts : Int} {b_Rebuilds : Int} {b_Searches : Int} {b_Builds : Int} {b_Hits : Int} {b_Stale : Int} {b_Evicts : Int} {w : World} {Q Q' : Int → Int → Int → Int → Int → Int → World → Prop} (hq : ∀ r_0 r_1 r_2 r_3 r_4 r_5 w, Q r_0 r_1 r_2 r_3 r_4 r_5 w → Q' r_0 r_1 r_2 r_3 r_4 r_5 w) (h : tally_Sum.call a_Rebuilds a_Searches a_Builds a_Hits a_Stale a_Evicts b_Rebuilds b_Searches b_Builds b_Hits b_Stale b_Evicts w Q) : tally_Sum.call a_Rebuilds a_Searches a_Builds a_Hits a_Stale a_Evicts b_Rebuilds b_Searches b_Builds b_Hits b_Stale b_Evicts w Q' := by
  refine CallK.mono ?_ h
  intro v w' h0
  unfold tally_Sum.qv at h0 ⊢
  obtain ⟨r_l, rfl, h1⟩ := dL_elim h0
  obtain ⟨r_v0, r_l0, rfl, h2⟩ := dCons_elim h1
  obtain ⟨r_0, rfl, h3⟩ := dI_elim h2
  obtain ⟨r_v1, r_l1, rfl, h4⟩ := dCons_elim h3
  obtain ⟨r_1, rfl, h5⟩ := dI_elim h4
  obtain ⟨r_v2, r_l2, rfl, h6⟩ := dCons_elim h5
  obtain ⟨r_2, rfl, h7⟩ := dI_elim h6
  obtain ⟨r_v3, r_l3, rfl, h8⟩ := dCons_elim h7
  obtain ⟨r_3, rfl, h9⟩ := dI_elim h8
  obtain ⟨r_v4, r_l4, rfl, h10⟩ := dCons_elim h9
  obtain ⟨r_4, rfl, h11⟩ := dI_elim h10
  obtain ⟨r_v5, r_l5, rfl, h12⟩ := dCons_elim h11
  obtain ⟨r_5, rfl, h13⟩ := dI_elim h12
  obtain ⟨rfl, h14⟩ := dNil_elim h13
  exact hq _ _ _ _ _ _ w' h14
/-! 13 herdsman/tally.counts -/
def tally_counts.qv (Q : Int → Int → Int → Int → Int → Int → World → Prop) (v : Value) (w : World) : Prop :=
  dL v fun r_l => dCons r_l fun r_v0 r_l0 => dI .u64 r_v0 fun r_0 => dCons r_l0 fun r_v1 r_l1 => dI .u64 r_v1 fun r_1 => dCons r_l1 fun r_v2 r_l2 => dI .u64 r_v2 fun r_2 => dCons r_l2 fun r_v3 r_l3 => dI .u64 r_v3 fun r_3 => dCons r_l3 fun r_v4 r_l4 => dI .u64 r_v4 fun r_4 => dCons r_l4 fun r_v5 r_l5 => dI .u64 r_v5 fun r_5 => dNil r_l5 <| Q r_0 r_1 r_2 r_3 r_4 r_5 w
def tally_counts.call (s_Rebuilds : Int) (s_Searches : Int) (s_Builds : Int) (s_Hits : Int) (s_Stale : Int) (s_Evicts : Int) (w : World) (Q : Int → Int → Int → Int → Int → Int → World → Prop) : Prop := CallK P 13 #[.agg #[.int .u64 s_Rebuilds, .int .u64 s_Searches, .int .u64 s_Builds, .int .u64 s_Hits, .int .u64 s_Stale, .int .u64 s_Evicts]] w (tally_counts.qv Q)
theorem tally_counts.mono {s_Rebuilds : Int} {s_Searches : Int} {s_Builds : Int} {s_Hits : Int} {s_Stale : Int} {s_Evicts : Int} {w : World} {Q Q' : Int → Int → Int → Int → Int → Int → World → Prop} (hq : ∀ r_0 r_1 r_2 r_3 r_4 r_5 w, Q r_0 r_1 r_2 r_3 r_4 r_5 w → Q' r_0 r_1 r_2 r_3 r_4 r_5 w) (h : tally_counts.call s_Rebuilds s_Searches s_Builds s_Hits s_Stale s_Evicts w Q) : tally_counts.call s_Rebuilds s_Searches s_Builds s_Hits s_Stale s_Evicts w Q' := by
  refine CallK.mono ?_ h
  intro v w' h0
  unfold tally_counts.qv at h0 ⊢
  obtain ⟨r_l, rfl, h1⟩ := dL_elim h0
  obtain ⟨r_v0, r_l0, rfl, h2⟩ := dCons_elim h1
  obtain ⟨r_0, rfl, h3⟩ := dI_elim h2
  obtain ⟨r_v1, r_l1, rfl, h4⟩ := dCons_elim h3
  obtain ⟨r_1, rfl, h5⟩ := dI_elim h4
  obtain ⟨r_v2, r_l2, rfl, h6⟩ := dCons_elim h5
  obtain ⟨r_2, rfl, h7⟩ := dI_elim h6
  obtain ⟨r_v3, r_l3, rfl, h8⟩ := dCons_elim h7
  obtain ⟨r_3, rfl, h9⟩ := dI_elim h8
  obtain ⟨r_v4, r_l4, rfl, h10⟩ := dCons_elim h9
  obtain ⟨r_4, rfl, h11⟩ := dI_elim h10
  obtain ⟨r_v5, r_l5, rfl, h12⟩ := dCons_elim h11
  obtain ⟨r_5, rfl, h13⟩ := dI_elim h12
  obtain ⟨rfl, h14⟩ := dNil_elim h13
  exact hq _ _ _ _ _ _ w' h14
end Go.Proofs.Ythelhikocaeecaa.S
