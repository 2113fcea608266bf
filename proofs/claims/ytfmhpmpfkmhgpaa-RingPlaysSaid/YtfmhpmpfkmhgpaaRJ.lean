/- Layer 7: RingPlays answers true. -/
import Derived.Test.YtfmhpmpfkmhgpaaRI
set_option linter.unusedVariables false
set_option linter.unusedSimpArgs false
namespace Go.Proofs.Ytfmhpmpfkmhgpaa.S
open Go.Sx
theorem ring_len_le {F : Nat → Prop} {W w : World} {L : List As} {i p : Nat} {a : Int} {l : List E} {bs : List Bk} {N : Nat} (s : Sep F W w L) (hi : L[i]? = some (ringA p a l bs N)) : 0 ≤ a ∧ a + 256 * (l.length : Int) ≤ 1099511627776 + 256 * (N : Int) ∧ l.length ≤ N :=
  ⟨(ring_rel s hi).nn, (ring_rel s hi).big, (ring_rel s hi).few⟩
attribute [local irreducible] LdI LdB LdStr LdP LdS LdM LdV St Bx Al App Cpy MkS MkM EqK RunK RunU CallK SlK blkA rowA joinA ringA
def ask (x : Int × Int × Int) : List Value := [.int .i64 x.1, .int .i64 x.2.1, .int .i64 x.2.2]
section
variable {W : World} {L : List As} {Q : Bool → World → Prop} {P10 : Option Addr → Nat → Nat → Bool → Option Addr → Addr → Int → World → Prop} {la : Option Addr} {ln lc : Nat} {raw : Bool} {p q : Nat}
theorem Plays_b27 {i : Nat} {a : Int} {l : List E} {bs : List Bk} {N c : Nat} {ra : Option Addr} {w : World} (hi : i < 1000)
    (h : ∀ w', Sep No W w' (ringA p a l bs N :: refA q a l ra c :: L) → P10 la ln lc raw (some ⟨p, 0, none⟩) ⟨q, 0, none⟩ ((i + 1 : Nat) : Int) w') (s : Sep No W w (ringA p a l bs N :: refA q a l ra c :: L)) :
    herdsmanlaw7_RingPlays.b27 P10 Q la ln lc raw (some ⟨p, 0, none⟩) ⟨q, 0, none⟩ i w := by
  unfold herdsmanlaw7_RingPlays.b27
  have s0 : Sep No W w.drew _ := s
  have o := join_open s0 (i := 1) rfl
  refine Sep.LdI o (i := 0) (j := 0) rfl rfl rfl ?_
  refine ring_At.spec s0 (i := 0) rfl ?_
  refine ⟨Sep.cell o (i := 0) (j := 0) rfl rfl rfl, ?_⟩
  rw [bne_self_eq_false, cond_false]
  refine Sep.LdS o (i := 0) (j := 1) rfl rfl rfl ?_
  refine ring_Len.spec s0 (i := 0) rfl ?_
  refine ⟨Sep.cell o (i := 0) (j := 1) rfl rfl rfl, ?_⟩
  rw [bne_self_eq_false, cond_false, wrap_i64 (by omega) (by omega)]
  exact h w.drew s0
theorem Plays_b20 {i : Nat} {a : Int} {l : List E} {bs : List Bk} {N c px : Nat} {ra : Option Addr} {x : Int × Int × Int} {w : World} (hi : i < 1000) (hN : N < 900) (hx : x.2.1 < 9223372036854775808)
    (h : ∀ w' a' l' bs' N' ra' c', N' ≤ N + 1 → Sep No W w' (ringA p a' l' bs' N' :: refA q a' l' ra' c' :: L) → P10 la ln lc raw (some ⟨p, 0, none⟩) ⟨q, 0, none⟩ ((i + 1 : Nat) : Int) w') (s : Sep No W w (blkA px 39 (ask x) :: ringA p a l bs N :: refA q a l ra c :: L)) :
    herdsmanlaw7_RingPlays.b20 P10 Q la ln lc raw (some ⟨p, 0, none⟩) ⟨q, 0, none⟩ i ⟨px, 0, none⟩ w := by
  unfold herdsmanlaw7_RingPlays.b20
  have s0 : Sep No W w.drew _ := s
  have hb := ring_len_le s0 (i := 1) rfl
  refine Sep.LdI s0 (i := 0) (j := 1) rfl rfl rfl ?_
  refine Sep.LdI s0 (i := 0) (j := 2) rfl rfl rfl ?_
  refine Sep.LdI s0 (i := 0) (j := 1) rfl rfl rfl ?_
  refine Sep.LdI s0 (i := 0) (j := 2) rfl rfl rfl ?_
  refine ring_Put.spec s0 (i := 1) rfl hx (by omega) (fun hno => ?_) fun hyes w1 bs1 s1 => ?_
  · refine ⟨Sep.cell s0 (i := 0) rfl rfl rfl, Sep.cell s0 (i := 0) rfl rfl rfl, ?_⟩
    refine ref_Put.spec s0 (i := 2) rfl hb.1 hx (by omega) (fun _ => ?_) (fun hyes => absurd hyes hno)
    rw [beq_self_eq_true, Bool.not_true, cond_false]
    exact Plays_b27 hi (fun w' s => h w' _ _ _ N _ _ (by omega) s) (Sep.drop s0)
  · simp only [List.set_cons_zero, List.set_cons_succ] at s1
    refine ⟨Sep.cell s1 (i := 0) rfl rfl rfl, Sep.cell s1 (i := 0) rfl rfl rfl, ?_⟩
    refine ref_Put.spec s1 (i := 2) rfl hb.1 hx (by omega) (fun hno => absurd hyes hno) fun _ w2 ra2 c2 s2 => ?_
    simp only [List.set_cons_zero, List.set_cons_succ] at s2
    rw [beq_self_eq_true, Bool.not_true, cond_false]
    exact Plays_b27 hi (fun w' s => h w' _ _ _ (N + 1) _ _ (by omega) s) (Sep.drop s2)
theorem Plays_b15 {i : Nat} {a : Int} {l : List E} {bs : List Bk} {N c px : Nat} {ra : Option Addr} {x : Int × Int × Int} {w : World} (hi : i < 1000) (hN : N < 900) (hx : x.2.1 < 9223372036854775808)
    (h : ∀ w' a' l' bs' N' ra' c', N' ≤ N + 1 → Sep No W w' (ringA p a' l' bs' N' :: refA q a' l' ra' c' :: L) → P10 la ln lc raw (some ⟨p, 0, none⟩) ⟨q, 0, none⟩ ((i + 1 : Nat) : Int) w') (s : Sep No W w (blkA px 39 (ask x) :: ringA p a l bs N :: refA q a l ra c :: L)) :
    herdsmanlaw7_RingPlays.b15 P10 Q la ln lc raw (some ⟨p, 0, none⟩) ⟨q, 0, none⟩ i ⟨px, 0, none⟩ w := by
  unfold herdsmanlaw7_RingPlays.b15
  refine Sep.LdI s (i := 0) (j := 0) rfl rfl rfl ?_
  refine herdsmanref1_Within.spec (by decide) (by decide) (by decide) ?_
  generalize (0 + x.1 % (3 - 0 + 1)) = kind
  have h20 := Plays_b20 (Q := Q) hi hN hx h s
  cases (kind == 0) with
  | true => exact h20
  | false =>
    rw [cond_false]
    cases (kind == 1) with
    | true => exact h20
    | false =>
      rw [cond_false]
      cases (kind == 2) with
      | true =>
        rw [cond_true]
        refine ring_Pop.spec s (i := 1) rfl (fun hl => ?_) fun w1 k l1 y l2 bs1 hl g1 g2 s1 => ?_
        · subst hl
          refine ref_Pop.nil s (i := 2) rfl ?_
          simp only [bne_self_eq_false, cond_false, beq_self_eq_true, Bool.not_true]
          exact Plays_b27 hi (fun w' s => h w' _ _ _ N _ _ (by omega) s) (Sep.drop s)
        · simp only [List.set_cons_zero, List.set_cons_succ] at s1
          refine ref_Pop.some s1 (i := 2) rfl hl g1 g2 fun w2 ra2 c2 s2 => ?_
          simp only [List.set_cons_zero, List.set_cons_succ] at s2
          simp only [bne_self_eq_false, cond_false, beq_self_eq_true, Bool.not_true]
          exact Plays_b27 hi (fun w' s => h w' _ _ _ N _ _ (by omega) s) (Sep.drop s2)
      | false =>
        rw [cond_false]
        have s0 : Sep No W w.drew _ := s
        refine Sep.LdI s0 (i := 0) (j := 1) rfl rfl rfl ?_
        refine Sep.LdI s0 (i := 0) (j := 1) rfl rfl rfl ?_
        refine ring_Jump.spec s0 (i := 1) rfl (fun hno => ?_) fun hyes w1 bs1 s1 => ?_
        · refine ⟨Sep.cell s0 (i := 0) rfl rfl rfl, ?_⟩
          refine ref_Jump.spec s0 (i := 2) rfl (fun _ => ?_) (fun hyes => absurd hyes hno)
          rw [beq_self_eq_true, Bool.not_true, cond_false]
          exact Plays_b27 hi (fun w' s => h w' _ _ _ N _ _ (by omega) s) (Sep.drop s0)
        · simp only [List.set_cons_zero, List.set_cons_succ] at s1
          refine ⟨Sep.cell s1 (i := 0) rfl rfl rfl, ?_⟩
          refine ref_Jump.spec s1 (i := 2) rfl (fun hno => absurd hyes hno) fun _ w2 s2 => ?_
          simp only [List.set_cons_zero, List.set_cons_succ] at s2
          rw [beq_self_eq_true, Bool.not_true, cond_false]
          exact Plays_b27 hi (fun w' s => h w' _ _ _ N _ _ (by omega) s) (Sep.drop s2)
theorem Plays_loop {xs : List (Int × Int × Int)} (hA : ArgRow W la ln 3 ask xs) (hwf : ∀ x ∈ xs, x.2.1 < 9223372036854775808) (hQ : ∀ w', Sep No W w' L → Q true w') :
    ∀ (m i : Nat) (a : Int) (l : List E) (bs : List Bk) (N c : Nat) (ra : Option Addr) (w : World), i + m = 60 → N ≤ i → Sep No W w (ringA p a l bs N :: refA q a l ra c :: L) →
      herdsmanlaw7_RingPlays.b10 Q (m + 1) la ln lc raw (some ⟨p, 0, none⟩) ⟨q, 0, none⟩ i w := by
  have fin : ∀ (a : Int) (l : List E) (bs : List Bk) (N c : Nat) (ra : Option Addr) (w : World), Sep No W w (ringA p a l bs N :: refA q a l ra c :: L) → herdsmanlaw7_told.call w fun r w' => Q r w' :=
    fun a l bs N c ra w s => herdsmanlaw7_told.spec s fun w' s => hQ w' (Sep.drop (Sep.drop s))
  intro m
  induction m with
  | zero =>
    intro i a l bs N c ra w hi hN s
    show herdsmanlaw7_RingPlays.s10 Q (herdsmanlaw7_RingPlays.b10 Q 0) _ _ _ _ _ _ _ _
    unfold herdsmanlaw7_RingPlays.s10
    cases decide ((i : Int) < (ln : Int)) with
    | false => exact fin _ _ _ _ _ _ w s
    | true =>
      rw [cond_true, decide_eq_false (by omega), cond_false]
      exact fin _ _ _ _ _ _ w s
  | succ m ih =>
    intro i a l bs N c ra w hi hN s
    show herdsmanlaw7_RingPlays.s10 Q (herdsmanlaw7_RingPlays.b10 Q (m + 1)) _ _ _ _ _ _ _ _
    unfold herdsmanlaw7_RingPlays.s10
    by_cases h1 : i < ln
    · rw [decide_eq_true (by omega), cond_true, decide_eq_true (by omega), cond_true]
      have hll := hA.1
      obtain ⟨x, hx⟩ : ∃ x, xs[i]? = some x := ⟨_, List.getElem?_eq_getElem (by omega)⟩
      have hxw := hwf x (List.mem_of_getElem? hx)
      obtain ⟨ad, rfl, hc⟩ := hA.2 i x hx
      have next : ∀ (px : Nat) (x : Int × Int × Int) (w' : World), x.2.1 < 9223372036854775808 → Sep No W w' (blkA px 39 (ask x) :: ringA p a l bs N :: refA q a l ra c :: L) → herdsmanlaw7_RingPlays.b15 (herdsmanlaw7_RingPlays.b10 Q (m + 1)) Q (some ad) ln lc raw (some ⟨p, 0, none⟩) ⟨q, 0, none⟩ i ⟨px, 0, none⟩ w' :=
        fun px x w' hx s => Plays_b15 (by omega) (by omega) hx (fun w' a' l' bs' N' ra' c' hN' s => ih (i + 1) a' l' bs' N' c' ra' w' (by omega) (by omega) s) s
      refine ⟨by omega, by omega, wA_some ?_⟩
      rw [show ((i : Int)).toNat = i from rfl]
      refine Sep.LdI_arg s (by rw [add_add]; exact hc 0 _ rfl) ?_
      refine Sep.LdI_arg s (by rw [add_add]; exact hc 1 _ rfl) ?_
      refine Sep.LdI_arg s (by rw [add_add]; exact hc 2 _ rfl) ?_
      refine Sep.Al s fun px w1 s => ?_
      rw [zc39] at s
      refine Sep.St s (i := 0) rfl rfl rfl fun w2 s => ?_
      refine Sep.St s (i := 0) rfl rfl rfl fun w3 s => ?_
      refine Sep.St s (i := 0) rfl rfl rfl fun w4 s => ?_
      simp only [List.set_cons_zero, List.set_cons_succ] at s
      cases raw with
      | true =>
        rw [Bool.not_true, cond_false]
        exact next px x w4 hxw s
      | false =>
        rw [Bool.not_false, cond_true]
        have s4 : Sep No W w4.drew _ := s
        have o := join_open s4 (i := 2) rfl
        have hb := ring_len_le s4 (i := 1) rfl
        refine Sep.LdI o (i := 0) (j := 0) rfl rfl rfl ?_
        refine Sep.LdI s4 (i := 0) (j := 1) rfl rfl rfl ?_
        refine herdsmanref1_Within.spec (by decide) (by decide) (by decide) ?_
        have r1 := within_range (n := x.2.1) (lo := -3) (hi := 259) (by decide)
        refine ⟨Sep.cell o (i := 0) (j := 0) rfl rfl rfl, ?_⟩
        refine Sep.St s4 (i := 0) rfl rfl rfl fun w6 s => ?_
        simp only [List.set_cons_zero, List.set_cons_succ] at s
        rw [wrap_i64 (by omega) (by omega)] at s
        exact next px (x.1, a + (-3 + x.2.1 % (259 - -3 + 1)), x.2.2) w6 (by simp only; omega) s
    · rw [decide_eq_false (by omega), cond_false]
      exact fin _ _ _ _ _ _ w s
theorem ref_new {a : Int} {w : World} (s : Sep No W w (blkA q 37 [.int .i64 a, .slice none 0 0] :: L)) : Sep No W w (refA q a [] none 0 :: L) := by
  have s1 := Sep.perm (Sep.row_nil s 50 2) (List.Perm.swap ..)
  exact Sep.joinApp (Ps := [blkA q 37 [.int .i64 a, .slice none ([] : List E).length 0], rowA none ([] : List E).length 0 50 2 (flat pr [])]) s1 (by simp)
theorem Plays_b3 {f : Int} {xs : List (Int × Int × Int)} (hA : ArgRow W la ln 3 ask xs) (hwf : ∀ x ∈ xs, x.2.1 < 9223372036854775808) (hQ : ∀ w', Sep No W w' [] → Q true w') : herdsmanlaw7_RingPlays.b3 Q f la ln lc raw W := by
  unfold herdsmanlaw7_RingPlays.b3
  have b5 : ∀ w', Sep No W w' [] → herdsmanlaw7_RingPlays.b5 Q none w' := by
    intro w' s
    unfold herdsmanlaw7_RingPlays.b5
    refine herdsmanlaw7_told.spec s fun w2 s => ?_
    exact hQ w2 s
  refine ring_New.spec (W := W) (F := No) (L := []) Sep.nil (fun hno => ?_) fun hyes p w1 bs s => ?_
  · by_cases h1 : f < 0
    · rw [decide_eq_true h1, cond_true]
      exact b5 W Sep.nil
    · rw [decide_eq_false h1, cond_false, decide_eq_true (by omega), cond_true]
      exact b5 W Sep.nil
  · rw [decide_eq_false (by omega), cond_false, decide_eq_false (by omega), cond_false]
    refine isNone_pt ?_
    refine Sep.Bx s fun q w2 s => ?_
    exact ⟨61, Plays_loop hA hwf hQ 60 0 f [] bs 0 0 none w2 (by omega) (by omega) (Sep.perm (ref_new s) (List.Perm.swap ..))⟩
theorem herdsmanlaw7_RingPlays.spec {f : Int} {xs : List (Int × Int × Int)} (hA : ArgRow W la ln 3 ask xs) (hwf : ∀ x ∈ xs, x.2.1 < 9223372036854775808) (hQ : ∀ w', Sep No W w' [] → Q true w') : herdsmanlaw7_RingPlays.call f la ln lc raw W Q := by
  refine herdsmanlaw7_RingPlays.body _ _ _ _ _ _ _ ?_
  unfold herdsmanlaw7_RingPlays.sh
  cases raw with
  | true => exact Plays_b3 hA hwf hQ
  | false =>
    rw [Bool.not_false, cond_true]
    refine herdsmanref1_Within.spec (by decide) (by decide) (by decide) ?_
    exact Plays_b3 hA hwf hQ
end
theorem RingPlays_law : LawOk P 5 [.int .i64, .sl 3 (.agg 3 [(0, 1, .int .i64), (1, 1, .int .i64), (2, 1, .int .i64)]), .bool] := by
  intro W args h
  obtain ⟨v0, r, rfl, h0, h⟩ := RdAll.cons h
  obtain ⟨v1, r, rfl, h1, h⟩ := RdAll.cons h
  obtain ⟨v2, r, rfl, h2, h⟩ := RdAll.cons h
  obtain rfl := RdAll.nil h
  obtain ⟨p, rfl, _⟩ := rdV_int h0
  obtain ⟨a, n, c, xs, rfl, _, _, _, k4, k5⟩ := rdV_row (f := ask) (Pr := fun x => x.2.1 < 9223372036854775808) (fun es k1 k2 => by
    match es, k1 with
    | [v0, v1, v2], _ =>
      obtain ⟨_, k2⟩ := rd_agg k2
      obtain ⟨q0, k2⟩ := rdF_cons k2
      obtain ⟨q1, k2⟩ := rdF_cons k2
      obtain ⟨q2, k2⟩ := rdF_cons k2
      obtain ⟨x, rfl, _⟩ := rd_int (w := W) q0
      obtain ⟨y, rfl, hy⟩ := rd_int (w := W) q1
      obtain ⟨z, rfl, _⟩ := rd_int (w := W) q2
      exact ⟨(x, y, z), rfl, (wf_i64 hy).2⟩) h1
  obtain ⟨b, rfl⟩ := rdV_bool h2
  exact herdsmanlaw7_RingPlays.spec (Q := fun r W' => r = true ∧ Go.RowKit.Below W.heap.size W W') k4 k5 fun w' s => ⟨rfl, sep_below s⟩
end Go.Proofs.Ytfmhpmpfkmhgpaa.S
