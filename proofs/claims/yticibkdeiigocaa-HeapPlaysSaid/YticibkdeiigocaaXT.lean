/- What the functions ask: the types' table, the calls. Printed by a program of this work (sxgen.py) out of the translation. -/
import Derived.Test.YticibkdeiigocaaProg
import Derived.Test.YticibkdeiigocaaSxE
set_option linter.unusedVariables false
set_option linter.unusedSimpArgs false
namespace Go.Proofs.Yticibkdeiigocaa.S
open Go.Sx
noncomputable abbrev P : Program := Go.Proofs.Try.prog
noncomputable def rows : List (Nat × TI) := [(0, ⟨.tup [], 1, 0, [.tuple #[]], []⟩),
  (3, ⟨.int .i64, 1, 8, [.int .i64 0], [.int .i64]⟩),
  (4, ⟨.bool, 1, 1, [.bool false], [.bool]⟩),
  (22, ⟨.slice 27, 1, 24, [.slice none 0 0], [.sl]⟩),
  (23, ⟨.ptr, 1, 8, [.pointer none], [.ptr]⟩),
  (25, ⟨.slice 30, 1, 24, [.slice none 0 0], [.sl]⟩),
  (27, ⟨.struct [(0, 3), (1, 3), (2, 3)], 3, 24, [.int .i64 0, .int .i64 0, .int .i64 0], [.int .i64, .int .i64, .int .i64]⟩),
  (30, ⟨.arr 2 3, 2, 16, [.int .i64 0, .int .i64 0], [.int .i64, .int .i64]⟩),
  (31, ⟨.tup [3, 3, 4], 1, 0, [.tuple #[.int .i64 0, .int .i64 0, .bool false]], []⟩),
  (36, ⟨.slice 3, 1, 24, [.slice none 0 0], [.sl]⟩),
  (37, ⟨.slice 4, 1, 24, [.slice none 0 0], [.sl]⟩),
  (41, ⟨.slice 45, 1, 24, [.slice none 0 0], [.sl]⟩),
  (43, ⟨.struct [(0, 41)], 1, 24, [.slice none 0 0], [.sl]⟩),
  (45, ⟨.struct [(0, 3), (1, 3)], 2, 16, [.int .i64 0, .int .i64 0], [.int .i64, .int .i64]⟩)]
noncomputable def T : Tab := tabOf rows
noncomputable def fns : List Nat := [3, 4, 5, 6, 7, 8, 9, 10, 11, 12, 13, 14, 15, 16]
noncomputable def cx (n : Nat) : Cx := ⟨P, T, fun f => memN f fns, n⟩
theorem rows_ok : rows.map (fun p => viewTI P p.1) = rows.map (fun p => some (p.2.d, p.2.size, p.2.bytes, p.2.zero)) := by kernel_rfl
theorem fns_ok : fnsB P fns = true := by kernel_rfl
theorem mixed_ok : P.follows .mixedOrders = true := by kernel_rfl
theorem ok (n : Nat) : OkCx (cx n) := okCx_of rows_ok fns_ok mixed_ok n
/-! 3 herdsman/herdsmanlaw13.HeapPlays -/
def herdsmanlaw13_HeapPlays.qv (Q : Bool → World → Prop) (v : Value) (w : World) : Prop :=
  dB v fun r => Q r w
def herdsmanlaw13_HeapPlays.call (l_a : Option Addr) (l_n : Nat) (l_c : Nat) (few : Bool) (w : World) (Q : Bool → World → Prop) : Prop := CallK P 3 #[.slice l_a l_n l_c, .bool few] w (herdsmanlaw13_HeapPlays.qv Q)
theorem herdsmanlaw13_HeapPlays.mono {l_a : Option Addr} {l_n : Nat} {l_c : Nat} {few : Bool} {w : World} {Q Q' : Bool → World → Prop} (hq : ∀ r w, Q r w → Q' r w) (h : herdsmanlaw13_HeapPlays.call l_a l_n l_c few w Q) : herdsmanlaw13_HeapPlays.call l_a l_n l_c few w Q' := by
  refine CallK.mono ?_ h
  intro v w' h0
  unfold herdsmanlaw13_HeapPlays.qv at h0 ⊢
  obtain ⟨r, rfl, h1⟩ := dB_elim h0
  exact hq _ w' h1
/-! 4 herdsman/herdsmanlaw13.HeapSorts -/
def herdsmanlaw13_HeapSorts.qv (Q : Bool → World → Prop) (v : Value) (w : World) : Prop :=
  dB v fun r => Q r w
def herdsmanlaw13_HeapSorts.call (keys_a : Option Addr) (keys_n : Nat) (keys_c : Nat) (items_a : Option Addr) (items_n : Nat) (items_c : Nat) (few : Bool) (w : World) (Q : Bool → World → Prop) : Prop := CallK P 4 #[.slice keys_a keys_n keys_c, .slice items_a items_n items_c, .bool few] w (herdsmanlaw13_HeapSorts.qv Q)
theorem herdsmanlaw13_HeapSorts.mono {keys_a : Option Addr} {keys_n : Nat} {keys_c : Nat} {items_a : Option Addr} {items_n : Nat} {items_c : Nat} {few : Bool} {w : World} {Q Q' : Bool → World → Prop} (hq : ∀ r w, Q r w → Q' r w) (h : herdsmanlaw13_HeapSorts.call keys_a keys_n keys_c items_a items_n items_c few w Q) : herdsmanlaw13_HeapSorts.call keys_a keys_n keys_c items_a items_n items_c few w Q' := by
  refine CallK.mono ?_ h
  intro v w' h0
  unfold herdsmanlaw13_HeapSorts.qv at h0 ⊢
  obtain ⟨r, rfl, h1⟩ := dB_elim h0
  exact hq _ w' h1
/-! 5 herdsman/herdsmanlaw13.HeapTurns -/
def herdsmanlaw13_HeapTurns.qv (Q : Bool → World → Prop) (v : Value) (w : World) : Prop :=
  dB v fun r => Q r w
def herdsmanlaw13_HeapTurns.call (keys_a : Option Addr) (keys_n : Nat) (keys_c : Nat) (turn : Int) (w : World) (Q : Bool → World → Prop) : Prop := CallK P 5 #[.slice keys_a keys_n keys_c, .int .i64 turn] w (herdsmanlaw13_HeapTurns.qv Q)
theorem herdsmanlaw13_HeapTurns.mono {keys_a : Option Addr} {keys_n : Nat} {keys_c : Nat} {turn : Int} {w : World} {Q Q' : Bool → World → Prop} (hq : ∀ r w, Q r w → Q' r w) (h : herdsmanlaw13_HeapTurns.call keys_a keys_n keys_c turn w Q) : herdsmanlaw13_HeapTurns.call keys_a keys_n keys_c turn w Q' := by
  refine CallK.mono ?_ h
  intro v w' h0
  unfold herdsmanlaw13_HeapTurns.qv at h0 ⊢
  obtain ⟨r, rfl, h1⟩ := dB_elim h0
  exact hq _ w' h1
/-! 6 herdsman/herdsmanlaw13.HeapNone -/
def herdsmanlaw13_HeapNone.qv (Q : Bool → World → Prop) (v : Value) (w : World) : Prop :=
  dB v fun r => Q r w
def herdsmanlaw13_HeapNone.call (key : Int) (item : Int) (w : World) (Q : Bool → World → Prop) : Prop := CallK P 6 #[.int .i64 key, .int .i64 item] w (herdsmanlaw13_HeapNone.qv Q)
theorem herdsmanlaw13_HeapNone.mono {key : Int} {item : Int} {w : World} {Q Q' : Bool → World → Prop} (hq : ∀ r w, Q r w → Q' r w) (h : herdsmanlaw13_HeapNone.call key item w Q) : herdsmanlaw13_HeapNone.call key item w Q' := by
  refine CallK.mono ?_ h
  intro v w' h0
  unfold herdsmanlaw13_HeapNone.qv at h0 ⊢
  obtain ⟨r, rfl, h1⟩ := dB_elim h0
  exact hq _ w' h1
/-! 7 herdsman/heap.New -/
def heap_New.qv (Q : Option Addr → World → Prop) (v : Value) (w : World) : Prop :=
  dP v fun r => Q r w
def heap_New.call (w : World) (Q : Option Addr → World → Prop) : Prop := CallK P 7 #[] w (heap_New.qv Q)
theorem heap_New.mono {w : World} {Q Q' : Option Addr → World → Prop} (hq : ∀ r w, Q r w → Q' r w) (h : heap_New.call w Q) : heap_New.call w Q' := by
  refine CallK.mono ?_ h
  intro v w' h0
  unfold heap_New.qv at h0 ⊢
  obtain ⟨r, rfl, h1⟩ := dP_elim h0
  exact hq _ w' h1
/-! 8 herdsman/herdsmanref1.Within -/
def herdsmanref1_Within.qv (Q : Int → World → Prop) (v : Value) (w : World) : Prop :=
  dI .i64 v fun r => Q r w
def herdsmanref1_Within.call (n : Int) (lo : Int) (hi : Int) (w : World) (Q : Int → World → Prop) : Prop := CallK P 8 #[.int .i64 n, .int .i64 lo, .int .i64 hi] w (herdsmanref1_Within.qv Q)
theorem herdsmanref1_Within.mono {n : Int} {lo : Int} {hi : Int} {w : World} {Q Q' : Int → World → Prop} (hq : ∀ r w, Q r w → Q' r w) (h : herdsmanref1_Within.call n lo hi w Q) : herdsmanref1_Within.call n lo hi w Q' := by
  refine CallK.mono ?_ h
  intro v w' h0
  unfold herdsmanref1_Within.qv at h0 ⊢
  obtain ⟨r, rfl, h1⟩ := dI_elim h0
  exact hq _ w' h1
/-! 9 (*herdsman/heap.Heap).Push -/
def heap_Heap_Push.qv (Q : World → Prop) (v : Value) (w : World) : Prop :=
  dT v fun r_l => dNil r_l <| Q w
def heap_Heap_Push.call (h0 : Option Addr) (key : Int) (item : Int) (w : World) (Q : World → Prop) : Prop := CallK P 9 #[.pointer h0, .int .i64 key, .int .i64 item] w (heap_Heap_Push.qv Q)
theorem heap_Heap_Push.mono {h0 : Option Addr} {key : Int} {item : Int} {w : World} {Q Q' : World → Prop} (hq : ∀ w, Q w → Q' w) (h : heap_Heap_Push.call h0 key item w Q) : heap_Heap_Push.call h0 key item w Q' := by
  refine CallK.mono ?_ h
  intro v w' h0
  unfold heap_Heap_Push.qv at h0 ⊢
  obtain ⟨r_l, rfl, h1⟩ := dT_elim h0
  obtain ⟨rfl, h2⟩ := dNil_elim h1
  exact hq w' h2
/-! 10 (*herdsman/heap.Heap).Top -/
def heap_Heap_Top.qv (Q : Int → Int → Bool → World → Prop) (v : Value) (w : World) : Prop :=
  dT v fun r_l => dCons r_l fun r_v0 r_l0 => dI .i64 r_v0 fun r_0 => dCons r_l0 fun r_v1 r_l1 => dI .i64 r_v1 fun r_1 => dCons r_l1 fun r_v2 r_l2 => dB r_v2 fun r_2 => dNil r_l2 <| Q r_0 r_1 r_2 w
def heap_Heap_Top.call (h0 : Option Addr) (w : World) (Q : Int → Int → Bool → World → Prop) : Prop := CallK P 10 #[.pointer h0] w (heap_Heap_Top.qv Q)
theorem heap_Heap_Top.mono {h0 : Option Addr} {w : World} {Q Q' : Int → Int → Bool → World → Prop} (hq : ∀ r r_1 r_2 w, Q r r_1 r_2 w → Q' r r_1 r_2 w) (h : heap_Heap_Top.call h0 w Q) : heap_Heap_Top.call h0 w Q' := by
  refine CallK.mono ?_ h
  intro v w' h0
  unfold heap_Heap_Top.qv at h0 ⊢
  obtain ⟨r_l, rfl, h1⟩ := dT_elim h0
  obtain ⟨r_v0, r_l0, rfl, h2⟩ := dCons_elim h1
  obtain ⟨r_0, rfl, h3⟩ := dI_elim h2
  obtain ⟨r_v1, r_l1, rfl, h4⟩ := dCons_elim h3
  obtain ⟨r_1, rfl, h5⟩ := dI_elim h4
  obtain ⟨r_v2, r_l2, rfl, h6⟩ := dCons_elim h5
  obtain ⟨r_2, rfl, h7⟩ := dB_elim h6
  obtain ⟨rfl, h8⟩ := dNil_elim h7
  exact hq _ _ _ w' h8
/-! 11 (*herdsman/heap.Heap).Pop -/
def heap_Heap_Pop.qv (Q : Int → Int → Bool → World → Prop) (v : Value) (w : World) : Prop :=
  dT v fun r_l => dCons r_l fun r_v0 r_l0 => dI .i64 r_v0 fun r_0 => dCons r_l0 fun r_v1 r_l1 => dI .i64 r_v1 fun r_1 => dCons r_l1 fun r_v2 r_l2 => dB r_v2 fun r_2 => dNil r_l2 <| Q r_0 r_1 r_2 w
def heap_Heap_Pop.call (h0 : Option Addr) (w : World) (Q : Int → Int → Bool → World → Prop) : Prop := CallK P 11 #[.pointer h0] w (heap_Heap_Pop.qv Q)
theorem heap_Heap_Pop.mono {h0 : Option Addr} {w : World} {Q Q' : Int → Int → Bool → World → Prop} (hq : ∀ r r_1 r_2 w, Q r r_1 r_2 w → Q' r r_1 r_2 w) (h : heap_Heap_Pop.call h0 w Q) : heap_Heap_Pop.call h0 w Q' := by
  refine CallK.mono ?_ h
  intro v w' h0
  unfold heap_Heap_Pop.qv at h0 ⊢
  obtain ⟨r_l, rfl, h1⟩ := dT_elim h0
  obtain ⟨r_v0, r_l0, rfl, h2⟩ := dCons_elim h1
  obtain ⟨r_0, rfl, h3⟩ := dI_elim h2
  obtain ⟨r_v1, r_l1, rfl, h4⟩ := dCons_elim h3
  obtain ⟨r_1, rfl, h5⟩ := dI_elim h4
  obtain ⟨r_v2, r_l2, rfl, h6⟩ := dCons_elim h5
  obtain ⟨r_2, rfl, h7⟩ := dB_elim h6
  obtain ⟨rfl, h8⟩ := dNil_elim h7
  exact hq _ _ _ w' h8
/-! 12 (*herdsman/heap.Heap).Len -/
def heap_Heap_Len.qv (Q : Int → World → Prop) (v : Value) (w : World) : Prop :=
  dI .i64 v fun r => Q r w
def heap_Heap_Len.call (h0 : Option Addr) (w : World) (Q : Int → World → Prop) : Prop := CallK P 12 #[.pointer h0] w (heap_Heap_Len.qv Q)
theorem heap_Heap_Len.mono {h0 : Option Addr} {w : World} {Q Q' : Int → World → Prop} (hq : ∀ r w, Q r w → Q' r w) (h : heap_Heap_Len.call h0 w Q) : heap_Heap_Len.call h0 w Q' := by
  refine CallK.mono ?_ h
  intro v w' h0
  unfold heap_Heap_Len.qv at h0 ⊢
  obtain ⟨r, rfl, h1⟩ := dI_elim h0
  exact hq _ w' h1
/-! 13 herdsman/herdsmanlaw13.told -/
def herdsmanlaw13_told.qv (Q : Bool → World → Prop) (v : Value) (w : World) : Prop :=
  dB v fun r => Q r w
def herdsmanlaw13_told.call (w : World) (Q : Bool → World → Prop) : Prop := CallK P 13 #[] w (herdsmanlaw13_told.qv Q)
theorem herdsmanlaw13_told.mono {w : World} {Q Q' : Bool → World → Prop} (hq : ∀ r w, Q r w → Q' r w) (h : herdsmanlaw13_told.call w Q) : herdsmanlaw13_told.call w Q' := by
  refine CallK.mono ?_ h
  intro v w' h0
  unfold herdsmanlaw13_told.qv at h0 ⊢
  obtain ⟨r, rfl, h1⟩ := dB_elim h0
  exact hq _ w' h1
/-! 14 (*herdsman/heap.Heap).up -/
def heap_Heap_up.qv (Q : World → Prop) (v : Value) (w : World) : Prop :=
  dT v fun r_l => dNil r_l <| Q w
def heap_Heap_up.call (h0 : Option Addr) (w : World) (Q : World → Prop) : Prop := CallK P 14 #[.pointer h0] w (heap_Heap_up.qv Q)
theorem heap_Heap_up.mono {h0 : Option Addr} {w : World} {Q Q' : World → Prop} (hq : ∀ w, Q w → Q' w) (h : heap_Heap_up.call h0 w Q) : heap_Heap_up.call h0 w Q' := by
  refine CallK.mono ?_ h
  intro v w' h0
  unfold heap_Heap_up.qv at h0 ⊢
  obtain ⟨r_l, rfl, h1⟩ := dT_elim h0
  obtain ⟨rfl, h2⟩ := dNil_elim h1
  exact hq w' h2
/-! 15 (*herdsman/heap.Heap).down -/
def heap_Heap_down.qv (Q : World → Prop) (v : Value) (w : World) : Prop :=
  dT v fun r_l => dNil r_l <| Q w
def heap_Heap_down.call (h0 : Option Addr) (w : World) (Q : World → Prop) : Prop := CallK P 15 #[.pointer h0] w (heap_Heap_down.qv Q)
theorem heap_Heap_down.mono {h0 : Option Addr} {w : World} {Q Q' : World → Prop} (hq : ∀ w, Q w → Q' w) (h : heap_Heap_down.call h0 w Q) : heap_Heap_down.call h0 w Q' := by
  refine CallK.mono ?_ h
  intro v w' h0
  unfold heap_Heap_down.qv at h0 ⊢
  obtain ⟨r_l, rfl, h1⟩ := dT_elim h0
  obtain ⟨rfl, h2⟩ := dNil_elim h1
  exact hq w' h2
/-! 16 (herdsman/heap.entry).less -/
def heap_entry_less.qv (Q : Bool → World → Prop) (v : Value) (w : World) : Prop :=
  dB v fun r => Q r w
def heap_entry_less.call (e_key : Int) (e_item : Int) (o_key : Int) (o_item : Int) (w : World) (Q : Bool → World → Prop) : Prop := CallK P 16 #[.agg #[.int .i64 e_key, .int .i64 e_item], .agg #[.int .i64 o_key, .int .i64 o_item]] w (heap_entry_less.qv Q)
theorem heap_entry_less.mono {e_key : Int} {e_item : Int} {o_key : Int} {o_item : Int} {w : World} {Q Q' : Bool → World → Prop} (hq : ∀ r w, Q r w → Q' r w) (h : heap_entry_less.call e_key e_item o_key o_item w Q) : heap_entry_less.call e_key e_item o_key o_item w Q' := by
  refine CallK.mono ?_ h
  intro v w' h0
  unfold heap_entry_less.qv at h0 ⊢
  obtain ⟨r, rfl, h1⟩ := dB_elim h0
  exact hq _ w' h1
end Go.Proofs.Yticibkdeiigocaa.S
