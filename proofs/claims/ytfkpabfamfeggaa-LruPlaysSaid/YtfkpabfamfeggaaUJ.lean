/- Layer 18: LruPlays answers true. -/
import Derived.Test.YtfkpabfamfeggaaUI
set_option linter.unusedVariables false
set_option linter.unusedSimpArgs false
namespace Go.Proofs.Ytfkpabfamfeggaa.S
open Go.Sx
open Go.Maps (Keyed)
attribute [local irreducible] LdI LdB LdStr LdP LdS LdM LdV St Bx Al App Cpy MkS MkM EqK RunK RunU CallK SlK blkA rowA joinA mapA
structure AskP where
  k : Int
  a : Int
  b : Int
def askc (v : AskP) : List Value := [.int .i64 v.k, .int .i64 v.a, .int .i64 v.b]
theorem use_le (k : Int) (l : KS) (key : Int × Int) : (useP k l key).2.length ≤ l.length + 1 := by
  unfold useP
  cases l.find? (fun p => decide (p.1 = key)) with
  | some q => simp only [List.length_cons]; have := List.length_filter_le (fun q : (Int × Int) × Nat => !decide (q.1 = key)) l; omega
  | none =>
    simp only
    split
    · simp
    · split <;> simp
section
variable {W w : World} {L : List As} {Q : Bool → World → Prop} {p q : Nat} {k : Int} {l : KS} {r : LruR} {ra la : Option Addr} {rn rc ln lc i : Nat} {any : Bool} {xs : List AskP}
variable {P10 : Int → Option Addr → Nat → Nat → Bool → Option Addr → Addr → Int → World → Prop}
theorem Plays_b27 (hi : i ≤ 80) (hl : l.length ≤ i + 1) (s : Sep No W w (lruA p k l r :: blkA q 38 [.int .i64 k, .slice ra rn rc] :: rowA ra rn rc 56 3 (flat entc l) :: L))
    (next : ∀ w', Sep No W w' [lruA p k l r, blkA q 38 [.int .i64 k, .slice ra rn rc], rowA ra rn rc 56 3 (flat entc l)] → P10 k la ln lc any (some ⟨p, 0, none⟩) ⟨q, 0, none⟩ ((i + 1 : Nat) : Int) w') :
    herdsmanlaw18_LruPlays.b27 P10 Q k la ln lc any (some ⟨p, 0, none⟩) ⟨q, 0, none⟩ i w := by
  unfold herdsmanlaw18_LruPlays.b27
  have s := Sep.drew s
  have hlen := (Sep.sl s (i := 2) rfl entc_len (by decide)).len
  refine Sep.LdS s (i := 1) rfl rfl rfl ?_
  refine Len.spec s ?_
  refine ⟨Sep.cell s (i := 1) rfl rfl rfl, ?_⟩
  rw [show ((l.length : Int) != (rn : Int)) = false by rw [bne_eq_false_iff_eq]; omega, cond_false]
  refine Keys.spec s (by omega) fun a n c w s => ?_
  have s := Sep.pick (L' := [_, _, _, _]) [2, 3, 1, 0] s rfl (by decide)
  refine ref_Keys.spec s (by omega) fun a' n' c' w s => ?_
  have h0 := Sep.sl s (i := 0) rfl keyc_len (by decide)
  have h4 := Sep.sl s (i := 4) rfl keyc_len (by decide)
  refine SameKeys.spec s h4 h0 (by rw [← h4.len, List.length_map]; omega) fun w s _ => ?_
  rw [decide_eq_true rfl, Bool.not_true, cond_false, wrap_i64 (n := (i : Int) + 1) (by omega) (by omega)]
  exact next _ (Sep.pick [3, 1, 2] s rfl (by decide))
attribute [local irreducible] herdsmanlaw18_LruPlays.b27 in
theorem Plays_b15 {qb : Nat} {kd a b : Int} (hk : 1 ≤ k) (hi : i ≤ 80) (hl : l.length ≤ i) (hw : WfK (a, b))
    (s : Sep No W w (blkA qb 40 [.int .i64 kd, .int .i64 a, .int .i64 b] :: lruA p k l r :: blkA q 38 [.int .i64 k, .slice ra rn rc] :: rowA ra rn rc 56 3 (flat entc l) :: L))
    (next : ∀ l' r' q' ra' rn' rc' w', l'.length ≤ i + 1 → Sep No W w' [lruA p k l' r', blkA q' 38 [.int .i64 k, .slice ra' rn' rc'], rowA ra' rn' rc' 56 3 (flat entc l')] → P10 k la ln lc any (some ⟨p, 0, none⟩) ⟨q', 0, none⟩ ((i + 1 : Nat) : Int) w') :
    herdsmanlaw18_LruPlays.b15 P10 Q k la ln lc any (some ⟨p, 0, none⟩) ⟨q, 0, none⟩ i ⟨qb, 0, none⟩ w := by
  unfold herdsmanlaw18_LruPlays.b15
  have hg := (lru_open (Sep.drop s)).1.good
  refine Sep.LdI s (i := 0) rfl rfl rfl ?_
  refine herdsmanref1_Within.spec (by decide) (by decide) (by decide) ?_
  generalize (0 + kd % (15 - 0 + 1)) = kd'
  have b25 : herdsmanlaw18_LruPlays.b25 P10 Q k la ln lc any (some ⟨p, 0, none⟩) ⟨q, 0, none⟩ i ⟨qb, 0, none⟩ w := by
    unfold herdsmanlaw18_LruPlays.b25
    have s := Sep.drew s
    refine Sep.LdI s (i := 0) rfl rfl rfl ?_
    refine Sep.LdI s (i := 0) rfl rfl rfl ?_
    refine Sep.LdI s (i := 0) rfl rfl rfl ?_
    refine Sep.LdI s (i := 0) rfl rfl rfl ?_
    refine Find.spec (key := (a, b)) (Sep.drop s) hw ?_
    refine ⟨Sep.cell s (i := 0) rfl rfl rfl, Sep.cell s (i := 0) rfl rfl rfl, ?_⟩
    refine ref_Find.spec (key := (a, b)) (Sep.drop (Sep.drop s)) (by omega) ?_
    rw [bne_self_eq_false, cond_false]
    exact Plays_b27 hi (by omega) (Sep.drop s) fun w s => next _ _ _ _ _ _ _ (by omega) s
  by_cases h15 : kd' = 15
  · rw [show (kd' == 15) = true by rw [beq_iff_eq]; exact h15, cond_true]
    obtain ⟨hI, s⟩ := lru_open (Sep.drop s)
    refine Clear.spec hk s fun r w s => ?_
    refine Sep.Bx s fun q' w s => ?_
    have s := Sep.row_nil s 56 3
    have s := Sep.perm s (List.Perm.trans (List.Perm.cons _ (List.Perm.swap ..)) (List.Perm.trans (List.Perm.swap ..) (List.Perm.cons _ (List.Perm.swap ..))))
    exact Plays_b27 (l := []) hi (by simp) s fun w s => next _ _ _ _ _ _ _ (by simp) s
  · rw [show (kd' == 15) = false by rw [beq_eq_false_iff_ne]; exact h15, cond_false]
    by_cases h13 : kd' = 13
    · rw [show (kd' == 13) = true by rw [beq_iff_eq]; exact h13, cond_true]
      exact b25
    · rw [show (kd' == 13) = false by rw [beq_eq_false_iff_ne]; exact h13, cond_false]
      by_cases h14 : kd' = 14
      · rw [show (kd' == 14) = true by rw [beq_iff_eq]; exact h14, cond_true]
        exact b25
      · rw [show (kd' == 14) = false by rw [beq_eq_false_iff_ne]; exact h14, cond_false]
        refine Sep.LdI s (i := 0) rfl rfl rfl ?_
        refine Sep.LdI s (i := 0) rfl rfl rfl ?_
        have s := Sep.perm s (List.Perm.swap ..)
        refine Use.spec (key := (a, b)) s hw (by omega) fun r w s => ?_
        refine Sep.LdI s (i := 1) rfl rfl rfl ?_
        refine Sep.LdI s (i := 1) rfl rfl rfl ?_
        have s := Sep.pick (L' := [_, _, _, _]) [2, 3, 1, 0] s rfl (by decide)
        refine ref_Use.spec (key := (a, b)) hk s (by omega) hg fun ra rn rc w s => ?_
        rw [bne_self_eq_false, cond_false, beq_self_eq_true, Bool.not_true, cond_false, beq_self_eq_true, Bool.not_true, cond_false]
        have hle := use_le k l (a, b)
        have s := Sep.pick (L' := [_, _, _]) [3, 0, 1] s rfl (by decide)
        exact Plays_b27 hi (by omega) s fun w s => next _ _ _ _ _ _ _ (by omega) s
theorem Plays_loop (hA : Sl W la ln lc 3 askc xs) (hw : ∀ x ∈ xs, WfK (x.a, x.b)) (hk : 1 ≤ k) (hQ : ∀ w', Sep No W w' [] → Q true w') :
    ∀ (m i : Nat) (l : KS) (r : LruR) (q : Nat) (ra : Option Addr) (rn rc : Nat) (w : World), i + m = 80 → l.length ≤ i → Sep No W w [lruA p k l r, blkA q 38 [.int .i64 k, .slice ra rn rc], rowA ra rn rc 56 3 (flat entc l)] →
      herdsmanlaw18_LruPlays.b10 Q (m + 1) k la ln lc any (some ⟨p, 0, none⟩) ⟨q, 0, none⟩ i w := by
  have stop : ∀ R (i q : Nat) (w : World) (L : List As), ¬ (i < ln ∧ i < 80) → Sep No W w L → herdsmanlaw18_LruPlays.s10 Q R k la ln lc any (some ⟨p, 0, none⟩) ⟨q, 0, none⟩ i w := by
    intro R i q w L hn s
    unfold herdsmanlaw18_LruPlays.s10
    by_cases h1 : i < ln
    · rw [decide_eq_true (by omega), cond_true, decide_eq_false (by omega), cond_false]
      exact told.spec s fun w s _ => hQ _ (Sep.call Sep.nil (sep_fr s))
    · rw [decide_eq_false (by omega), cond_false]
      exact told.spec s fun w s _ => hQ _ (Sep.call Sep.nil (sep_fr s))
  intro m
  induction m with
  | zero =>
    intro i l r q ra rn rc w hi hl s
    exact stop _ i q w _ (by omega) s
  | succ m ih =>
    intro i l r q ra rn rc w hi hl s
    show herdsmanlaw18_LruPlays.s10 Q (herdsmanlaw18_LruPlays.b10 Q (m + 1)) _ _ _ _ _ _ _ _ _
    by_cases hgo : i < ln ∧ i < 80
    · unfold herdsmanlaw18_LruPlays.s10
      rw [decide_eq_true (by omega), cond_true, decide_eq_true (by omega), cond_true]
      refine (hA.fr (sep_fr s)).El rfl hgo.1 fun pp x hx hc => ?_
      have hwx := hw x (List.mem_of_getElem? hx)
      refine LdI_cell (hc 0 _ rfl) ?_
      refine LdI_cell (hc 1 _ rfl) ?_
      refine LdI_cell (hc 2 _ rfl) ?_
      refine Sep.Al s fun qb w s => ?_
      simp only [zc40] at s
      refine Sep.St s (i := 0) rfl rfl rfl fun w s => ?_
      refine Sep.St s (i := 0) rfl rfl rfl fun w s => ?_
      refine Sep.St s (i := 0) rfl rfl rfl fun w s => ?_
      simp only [List.set_cons_zero, List.set_cons_succ] at s
      have next : ∀ l' r' q' ra' rn' rc' w', l'.length ≤ i + 1 → Sep No W w' [lruA p k l' r', blkA q' 38 [.int .i64 k, .slice ra' rn' rc'], rowA ra' rn' rc' 56 3 (flat entc l')] → herdsmanlaw18_LruPlays.b10 Q (m + 1) k la ln lc any (some ⟨p, 0, none⟩) ⟨q', 0, none⟩ ((i + 1 : Nat) : Int) w' :=
        fun l' r' q' ra' rn' rc' w' h1 s => ih (i + 1) l' r' q' ra' rn' rc' w' (by omega) h1 s
      cases any with
      | true =>
        rw [Bool.not_true, cond_false]
        exact Plays_b15 hk (by omega) hl hwx s next
      | false =>
        rw [Bool.not_false, cond_true]
        have s := Sep.drew s
        refine Sep.LdI s (i := 0) rfl rfl rfl ?_
        refine Sep.LdI s (i := 0) rfl rfl rfl ?_
        refine herdsmanref1_Within.spec (by decide) (by decide) (by decide) ?_
        refine ⟨Sep.cell s (i := 0) rfl rfl rfl, ?_⟩
        refine herdsmanref1_Within.spec (by decide) (by decide) (by decide) ?_
        have r1 := within_range (n := x.a) (lo := -1) (hi := 2) (by decide)
        have r2 := within_range (n := x.b) (lo := 0) (hi := 3) (by decide)
        generalize (-1 + x.a % (2 - -1 + 1)) = a' at r1
        generalize (0 + x.b % (3 - 0 + 1)) = b' at r2
        refine Sep.St s (i := 0) rfl rfl rfl fun w s => ?_
        refine Sep.St s (i := 0) rfl rfl rfl fun w s => ?_
        simp only [List.set_cons_zero, List.set_cons_succ] at s
        exact Plays_b15 hk (by omega) hl ⟨wf_small (by show -1000000 ≤ a' ∧ _; omega), wf_small (by show -1000000 ≤ b' ∧ _; omega)⟩ s next
    · exact stop _ i q w _ hgo s
theorem LruPlays.spec {k0 : Int} (hA : Sl W la ln lc 3 askc xs) (hw : ∀ x ∈ xs, WfK (x.a, x.b)) (hQ : ∀ w', Sep No W w' [] → Q true w') : herdsmanlaw18_LruPlays.call k0 la ln lc any W Q := by
  refine herdsmanlaw18_LruPlays.body _ _ _ _ _ _ _ ?_
  unfold herdsmanlaw18_LruPlays.sh
  have b3 : ∀ k, herdsmanlaw18_LruPlays.b3 Q k la ln lc any W := by
    intro k
    unfold herdsmanlaw18_LruPlays.b3
    have s := Sep.nil (F := No) (w := W)
    refine New.spec s (fun hk => ?_) fun hk p r w s => ?_
    · rw [decide_eq_true hk, cond_true]
      refine told.spec s fun w s _ => ?_
      rw [cond_true]
      exact hQ _ s
    · rw [decide_eq_false (by omega), cond_false, show (some (⟨p, 0, none⟩ : Addr)).isNone = false from rfl, cond_false]
      refine Sep.Bx s fun q w s => ?_
      have s := Sep.pick (L' := [_, _, _]) [2, 1, 0] (Sep.row_nil s 56 3) rfl (by decide)
      exact ⟨81, Plays_loop hA hw hk hQ 80 0 [] r q none 0 0 w rfl (by simp) s⟩
  by_cases h0 : k0 > 0
  · rw [decide_eq_true h0, cond_true]
    cases any with
    | true => exact b3 _
    | false =>
      rw [Bool.not_false, cond_true]
      refine herdsmanref1_Within.spec (by decide) (by decide) (by decide) ?_
      exact b3 _
  · rw [decide_eq_false h0, cond_false]
    exact b3 _
end
def askS : Sh := .agg 3 [(0, 1, .int .i64), (1, 1, .int .i64), (2, 1, .int .i64)]
theorem LruPlays_law : LawOk P 4 [.int .i64, .sl 3 askS, .bool] := by
  intro W args h
  obtain ⟨v0, r, rfl, h0, h⟩ := RdAll.cons h
  obtain ⟨v1, r, rfl, h1, h⟩ := RdAll.cons h
  obtain ⟨v2, r, rfl, h2, h⟩ := RdAll.cons h
  obtain rfl := RdAll.nil h
  obtain ⟨x, rfl, hx⟩ := rdV_int h0
  obtain ⟨b, rfl⟩ := rdV_bool h2
  obtain ⟨a, n, c, xs, rfl, k1, k2, k3, k4, k5⟩ := rdV_row (f := askc) (Pr := fun x => WfK (x.a, x.b)) (fun es hl he => by
    obtain ⟨_, he⟩ := rd_agg he
    match es, hl with
    | [v0, v1, v2], _ =>
      obtain ⟨k0, he⟩ := rdF_cons he
      obtain ⟨k1, he⟩ := rdF_cons he
      obtain ⟨k2, he⟩ := rdF_cons he
      obtain ⟨x0, rfl, _⟩ := rd_int (w := W) k0
      obtain ⟨x1, rfl, w1⟩ := rd_int (w := W) k1
      obtain ⟨x2, rfl, w2⟩ := rd_int (w := W) k2
      exact ⟨⟨x0, x1, x2⟩, rfl, w1, w2⟩) h1
  exact LruPlays.spec (Q := fun r W' => r = true ∧ Go.RowKit.Below W.heap.size W W') ⟨k4, k1, k3⟩ k5 fun w' s => ⟨rfl, sep_below s⟩
end Go.Proofs.Ytfkpabfamfeggaa.S
