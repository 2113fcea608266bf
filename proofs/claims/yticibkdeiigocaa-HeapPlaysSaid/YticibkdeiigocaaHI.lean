/- Layer 13: HeapPlays answers true: the whole of it. -/
import Derived.Test.YticibkdeiigocaaHH
set_option linter.unusedVariables false
set_option linter.unusedSimpArgs false
namespace Go.Proofs.Yticibkdeiigocaa.S
open Go.Sx
attribute [local irreducible] LdI LdB LdStr LdP LdS LdM LdV St Bx Al App Cpy MkS MkM EqK RunK RunU CallK SlK blkA rowA heapA
section
variable {W : World} {L : List As} {Q : Bool → World → Prop} {P6 : Option Addr → Nat → Nat → Bool → Option Addr → Option Addr → Nat → Nat → Int → World → Prop} {la : Option Addr} {ln lc : Nat} {few : Bool} {p : Nat}
theorem Plays_b15 {i n wc c px : Nat} {wa a : Option Addr} {es ws : List E} {x : E} {kd : Int} (hi : i < 1000) (hn : ws.length = n) (hmax : n ≤ 1000) (hs : Srt ws) (hp : es.Perm (ws ++ [x]))
    (h : ∀ w' wa' wc' ws', es.Perm ws' → Srt ws' → ws'.length = n + 1 → Sep No W w' (rowA wa' (n + 1) wc' 30 2 (flat pr ws') :: heapA p a c es :: L) → P6 la ln lc few (some ⟨p, 0, none⟩) wa' (n + 1) wc' ((i + 1 : Nat) : Int) w') :
    ∀ (m k : Nat) (w : World), k + m = n → (∀ j, j < k → lt2 (g ws j) x = true) → Sep No W w (blkA px 27 [.int .i64 kd, .int .i64 x.1, .int .i64 x.2] :: rowA wa n wc 30 2 (flat pr ws) :: heapA p a c es :: L) →
      herdsmanlaw13_HeapPlays.b15 P6 Q (m + 1) la ln lc few (some ⟨p, 0, none⟩) wa n wc i ⟨px, 0, none⟩ k w := by
  have fin : ∀ (k : Nat) (w : World), k ≤ n → (∀ j, j < k → lt2 (g ws j) x = true) → (k < n → lt2 (g ws k) x = false) → Sep No W w (blkA px 27 [.int .i64 kd, .int .i64 x.1, .int .i64 x.2] :: rowA wa n wc 30 2 (flat pr ws) :: heapA p a c es :: L) →
      herdsmanlaw13_HeapPlays.b17 P6 Q la ln lc few (some ⟨p, 0, none⟩) wa n wc i ⟨px, 0, none⟩ k w := by
    intro k w hk h1 h2 s
    refine Plays_b17 hi hn hmax hk (hp.trans (ins_perm ws k x).symm) (fun w' wa' wc' s => ?_) s
    exact h w' wa' wc' _ (hp.trans (ins_perm ws k x).symm) (srt_ins hs (by omega) h1 (by rw [hn]; exact h2)) (by unfold ins; simp; omega) s
  intro m
  induction m with
  | zero =>
    intro k w hk h1 s
    show herdsmanlaw13_HeapPlays.s15 P6 Q (herdsmanlaw13_HeapPlays.b15 P6 Q 0) _ _ _ _ _ _ _ _ _ _ _ _
    unfold herdsmanlaw13_HeapPlays.s15
    rw [decide_eq_false (by omega), cond_false]
    exact fin k w.drew (by omega) h1 (fun h => by omega) s
  | succ m ih =>
    intro k w hk h1 s
    show herdsmanlaw13_HeapPlays.s15 P6 Q (herdsmanlaw13_HeapPlays.b15 P6 Q (m + 1)) _ _ _ _ _ _ _ _ _ _ _ _
    unfold herdsmanlaw13_HeapPlays.s15
    rw [decide_eq_true (by omega), cond_true]
    obtain ⟨b, o, rfl⟩ := rowA_some s (i := 1) rfl (by omega)
    have s0 : Sep No W w.drew _ := s
    have gk := g_get (es := ws) (i := k) (by omega)
    have next : lt2 (g ws k) x = true → herdsmanlaw13_HeapPlays.b15 P6 Q (m + 1) la ln lc few (some ⟨p, 0, none⟩) (some ⟨b, o, none⟩) n wc i ⟨px, 0, none⟩ (IntKind.wrap .i64 ((k : Int) + 1)) w.drew := by
      intro hlt
      rw [wrap_i64 (by omega) (by omega)]
      refine ih (k + 1) w.drew (by omega) (fun j hj => ?_) s0
      by_cases hjk : j = k
      · subst hjk; exact hlt
      · exact h1 j (by omega)
    refine ⟨by omega, by omega, wA_some ⟨by decide, by decide, ?_⟩⟩
    rw [show ((k : Int)).toNat = k from rfl]
    refine Sep.LdI_el pr_len s0 (i := 1) rfl gk (j := 0) (el_addr ..) rfl ?_
    refine Sep.LdI s0 (i := 0) (j := 1) rfl rfl rfl ?_
    by_cases c1 : (g ws k).1 < x.1
    · rw [decide_eq_true c1, cond_true]
      exact next (lt2_iff.2 (.inl c1))
    · rw [decide_eq_false c1, cond_false]
      refine ⟨by omega, by omega, wA_some ⟨by decide, by decide, ?_⟩⟩
      refine Sep.LdI_el pr_len s0 (i := 1) rfl gk (j := 0) (el_addr ..) rfl ?_
      refine Sep.LdI s0 (i := 0) (j := 1) rfl rfl rfl ?_
      cases c2 : ((g ws k).1 == x.1) with
      | false =>
        rw [cond_false]
        rw [beq_eq_false_iff_ne] at c2
        exact fin k w.drew (by omega) h1 (fun _ => lt2_not.2 (by omega)) s0
      | true =>
        rw [cond_true]
        have c2 := eq_of_beq c2
        refine ⟨by omega, by omega, wA_some ⟨by decide, by decide, ?_⟩⟩
        refine Sep.LdI_el pr_len s0 (i := 1) rfl gk (j := 1) (el_addr ..) rfl ?_
        refine Sep.LdI s0 (i := 0) (j := 2) rfl rfl rfl ?_
        by_cases c3 : (g ws k).2 < x.2
        · rw [decide_eq_true c3, cond_true]
          exact next (lt2_iff.2 (.inr ⟨c2, c3⟩))
        · rw [decide_eq_false c3, cond_false]
          exact fin k w.drew (by omega) h1 (fun _ => lt2_not.2 (by omega)) s0
theorem Plays_b23_keep {i n wc c : Nat} {kind : Int} {wa a : Option Addr} {es ws : List E} {w : World} {ok0 : Bool} (hi : i < 1000) (hn : ws.length = n) (hp : es.Perm ws) (hk : (kind == 2) = false ∨ ok0 = false)
    (h : ∀ w', Sep No W w' (rowA wa n wc 30 2 (flat pr ws) :: heapA p a c es :: L) → P6 la ln lc few (some ⟨p, 0, none⟩) wa n wc ((i + 1 : Nat) : Int) w') (s : Sep No W w (rowA wa n wc 30 2 (flat pr ws) :: heapA p a c es :: L)) :
    herdsmanlaw13_HeapPlays.b23 P6 Q la ln lc few (some ⟨p, 0, none⟩) wa n wc i kind ok0 w := by
  unfold herdsmanlaw13_HeapPlays.b23
  have hb := Plays_b25 (Q := Q) hi hn hp h s
  rcases hk with hk | hk
  · rw [hk, cond_false]; exact hb
  · subst hk
    rw [cond_false]
    cases (kind == 2) <;> exact hb
theorem Plays_b23_pop {i n wc c : Nat} {wa a : Option Addr} {es ws : List E} {w : World} (hi : i < 1000) (hn : ws.length = n) (h0 : 0 < n) (hp : es.Perm (ws.drop 1))
    (h : ∀ w' wa' wc', Sep No W w' (rowA wa' (n - 1) wc' 30 2 (flat pr (ws.drop 1)) :: heapA p a c es :: L) → P6 la ln lc few (some ⟨p, 0, none⟩) wa' (n - 1) wc' ((i + 1 : Nat) : Int) w') (s : Sep No W w (rowA wa n wc 30 2 (flat pr ws) :: heapA p a c es :: L)) :
    herdsmanlaw13_HeapPlays.b23 P6 Q la ln lc few (some ⟨p, 0, none⟩) wa n wc i 2 true w := by
  unfold herdsmanlaw13_HeapPlays.b23
  rw [show ((2 : Int) == 2) = true from rfl, cond_true, cond_true]
  refine SlK_lo (m := 1) rfl h0 ?_
  have s := Sep.row_drop s (i := 0) rfl (m := 1) h0
  simp only [List.set_cons_zero] at s
  rw [flat_drop pr_len] at s
  exact Plays_b25 hi (by simp; omega) hp (fun w' s => h w' _ _ s) s
/-- What was told of the first is what the row has. -/
theorem Plays_b21 {i n wc c : Nat} {kind k0 y : Int} {wa a : Option Addr} {es ws : List E} {w : World} {ok0 : Bool} (hn : ws.length = n) (hok : ok0 = decide (0 < n)) (hv : (0 < n → g ws 0 = (k0, y)) ∧ (n = 0 → k0 = 0 ∧ y = 0))
    (hb : herdsmanlaw13_HeapPlays.b23 P6 Q la ln lc few (some ⟨p, 0, none⟩) wa n wc i kind ok0 w) (s : Sep No W w (rowA wa n wc 30 2 (flat pr ws) :: heapA p a c es :: L)) :
    herdsmanlaw13_HeapPlays.b21 P6 Q la ln lc few (some ⟨p, 0, none⟩) wa n wc i kind k0 y ok0 w := by
  unfold herdsmanlaw13_HeapPlays.b21
  have e : decide ((n : Int) > 0) = decide (0 < n) := decide_eq_decide.2 (by omega)
  rw [e, ← hok, beq_self_eq_true, Bool.not_true, cond_false]
  by_cases h0 : 0 < n
  · rw [decide_eq_true h0] at hok
    subst hok
    have hg := hv.1 h0
    obtain ⟨b, o, rfl⟩ := rowA_some s (i := 0) rfl h0
    have gk := g_get (es := ws) (i := 0) (by omega)
    rw [hg] at gk
    rw [cond_true]
    refine ⟨by omega, by omega, wA_some ⟨by decide, by decide, ?_⟩⟩
    refine Sep.LdI_el pr_len s (i := 0) (k := 0) rfl gk (j := 0) (el_addr ..) rfl ?_
    rw [bne_self_eq_false, cond_false]
    refine ⟨by omega, by omega, wA_some ⟨by decide, by decide, ?_⟩⟩
    refine Sep.LdI_el pr_len s (i := 0) (k := 0) rfl gk (j := 1) (el_addr ..) rfl ?_
    rw [bne_self_eq_false, cond_false, Bool.not_true, cond_false]
    exact hb
  · rw [decide_eq_false h0] at hok
    subst hok
    obtain ⟨rfl, rfl⟩ := hv.2 (by omega)
    rw [cond_false, Bool.not_false, cond_true, bne_self_eq_false, cond_false, cond_false]
    exact hb
theorem Plays_b11 {i n wc c px : Nat} {wa a : Option Addr} {es ws : List E} {x : Int × Int × Int} {w : World} (hi : i < 200) (hn : ws.length = n) (hmax : n ≤ i) (hs : Srt ws) (hp : es.Perm ws)
    (h : ∀ w' wa' a' n' wc' c' es' ws', es'.Perm ws' → Srt ws' → ws'.length = n' → n' ≤ i + 1 → Sep No W w' (rowA wa' n' wc' 30 2 (flat pr ws') :: heapA p a' c' es' :: L) → P6 la ln lc few (some ⟨p, 0, none⟩) wa' n' wc' ((i + 1 : Nat) : Int) w')
    (s : Sep No W w (blkA px 27 (ask x) :: rowA wa n wc 30 2 (flat pr ws) :: heapA p a c es :: L)) :
    herdsmanlaw13_HeapPlays.b11 P6 Q la ln lc few (some ⟨p, 0, none⟩) wa n wc i ⟨px, 0, none⟩ w := by
  unfold herdsmanlaw13_HeapPlays.b11
  refine Sep.LdI s (i := 0) (j := 0) rfl rfl rfl ?_
  refine herdsmanref1_Within.spec (by decide) (by decide) (by decide) ?_
  have r1 := within_range (n := x.1) (lo := 0) (hi := 3) (by decide)
  generalize (0 + x.1 % (3 - 0 + 1)) = kind at r1
  have hlen := hp.length_eq
  by_cases hk : kind < 2
  · rw [decide_eq_true hk, cond_true]
    refine Sep.LdI s (i := 0) (j := 1) rfl rfl rfl ?_
    refine Sep.LdI s (i := 0) (j := 2) rfl rfl rfl ?_
    refine heap_Push.spec s (i := 2) rfl (by omega) fun w1 a1 c1 e1 q1 s => ?_
    simp only [List.set_cons_zero, List.set_cons_succ] at s
    refine ⟨n + 1, ?_⟩
    exact Plays_b15 (x := (x.2.1, x.2.2)) (by omega) hn (by omega) hs (q1.trans (hp.append_right _)) (fun w' wa' wc' ws' k1 k2 k3 s => h w' wa' a1 (n + 1) wc' c1 e1 ws' k1 k2 k3 (by omega) s) n 0 w1 (by omega) (fun j hj => by omega) s
  · rw [decide_eq_false hk, cond_false]
    have hh := heap_heap s (i := 2) rfl
    have hfst : 0 < ws.length → g es 0 = g ws 0 := fun h0 => srt_first hh hs hp h0
    refine heap_Top.spec s (i := 2) rfl (fun he w1 s => ?_) fun hpos w1 s => ?_
    · have hn0 : n = 0 := by rw [he] at hlen; simp at hlen; omega
      subst hn0
      cases hk2 : (kind == 2) with
      | false =>
        rw [cond_false]
        have s := Sep.drop s
        refine Plays_b21 hn rfl ⟨fun h => by omega, fun _ => ⟨rfl, rfl⟩⟩ ?_ s
        exact Plays_b23_keep (by omega) hn hp (.inl hk2) (fun w' s => h w' _ _ _ _ _ _ _ hp hs hn (by omega) s) s
      | true =>
        rw [cond_true]
        refine heap_Pop.spec s (i := 2) rfl (by omega) (fun _ w2 s => ?_) (fun hpos => by rw [he] at hpos; simp at hpos)
        have s := Sep.drop s
        refine Plays_b21 hn rfl ⟨fun h => by omega, fun _ => ⟨rfl, rfl⟩⟩ ?_ s
        exact Plays_b23_keep (by omega) hn hp (.inr rfl) (fun w' s => h w' _ _ _ _ _ _ _ hp hs hn (by omega) s) s
    · have hn0 : 0 < n := by omega
      have hg := hfst (by omega)
      cases hk2 : (kind == 2) with
      | false =>
        rw [cond_false]
        have s := Sep.drop s
        refine Plays_b21 hn (decide_eq_true hn0).symm ⟨fun _ => by rw [← hg], fun h => by omega⟩ ?_ s
        exact Plays_b23_keep (by omega) hn hp (.inl hk2) (fun w' s => h w' _ _ _ _ _ _ _ hp hs hn (by omega) s) s
      | true =>
        rw [cond_true]
        obtain rfl : kind = 2 := eq_of_beq hk2
        refine heap_Pop.spec s (i := 2) rfl (by omega) (fun he => by rw [he] at hpos; simp at hpos) fun _ w2 a2 c2 e2 q2 s => ?_
        simp only [List.set_cons_zero, List.set_cons_succ] at s
        have s := Sep.drop s
        refine Plays_b21 hn (decide_eq_true hn0).symm ⟨fun _ => by rw [← hg], fun h => by omega⟩ ?_ s
        have hws : ws = g ws 0 :: ws.drop 1 := by
          match ws, hn with
          | [], hn => simp at hn; omega
          | v :: ws, _ => rfl
        have hp2 : e2.Perm (ws.drop 1) := by
          refine List.Perm.cons_inv (a := g ws 0) ?_
          rw [← hws, ← hg]
          exact q2.trans hp
        refine Plays_b23_pop (by omega) hn hn0 hp2 (fun w' wa' wc' s => h w' wa' a2 (n - 1) wc' c2 e2 _ hp2 (hs.sublist (List.drop_sublist ..)) (by simp; omega) (by omega) s) s
end
section
variable {W : World} {L : List As} {Q : Bool → World → Prop} {la : Option Addr} {ln lc : Nat} {few : Bool} {p : Nat} {l : List (Int × Int × Int)}
theorem Plays_loop (hA : ArgRow W la ln 3 ask l) (hQ : ∀ w', Sep No W w' L → Q true w') :
    ∀ (m i n : Nat) (w : World) (wa a : Option Addr) (wc c : Nat) (es ws : List E), i + m = 120 → n ≤ i → ws.length = n → es.Perm ws → Srt ws → Sep No W w (rowA wa n wc 30 2 (flat pr ws) :: heapA p a c es :: L) →
      herdsmanlaw13_HeapPlays.b6 Q (m + 1) la ln lc few (some ⟨p, 0, none⟩) wa n wc i w := by
  intro m
  induction m with
  | zero =>
    intro i n w wa a wc c es ws hi hni hn hp hs s
    show herdsmanlaw13_HeapPlays.s6 Q (herdsmanlaw13_HeapPlays.b6 Q 0) _ _ _ _ _ _ _ _ _ _
    unfold herdsmanlaw13_HeapPlays.s6
    have hb : herdsmanlaw13_told.call w fun r w' => Q r w' := herdsmanlaw13_told.spec s fun w' s => hQ w' (Sep.drop (Sep.drop s))
    cases decide ((i : Int) < (ln : Int)) with
    | false => exact hb
    | true =>
      rw [cond_true, decide_eq_false (by omega), cond_false]
      exact hb
  | succ m ih =>
    intro i n w wa a wc c es ws hi hni hn hp hs s
    show herdsmanlaw13_HeapPlays.s6 Q (herdsmanlaw13_HeapPlays.b6 Q (m + 1)) _ _ _ _ _ _ _ _ _ _
    unfold herdsmanlaw13_HeapPlays.s6
    by_cases h1 : i < ln
    · rw [decide_eq_true (by omega), cond_true, decide_eq_true (by omega), cond_true]
      have hll := hA.1
      obtain ⟨x, hx⟩ : ∃ x, l[i]? = some x := ⟨_, List.getElem?_eq_getElem (by omega)⟩
      obtain ⟨ad, rfl, hc⟩ := hA.2 i x hx
      have next : ∀ (px : Nat) (x : Int × Int × Int) (w' : World), Sep No W w' (blkA px 27 (ask x) :: rowA wa n wc 30 2 (flat pr ws) :: heapA p a c es :: L) → herdsmanlaw13_HeapPlays.b11 (herdsmanlaw13_HeapPlays.b6 Q (m + 1)) Q (some ad) ln lc few (some ⟨p, 0, none⟩) wa n wc i ⟨px, 0, none⟩ w' := by
        intro px x w' s
        exact Plays_b11 (by omega) hn hni hs hp (fun w' wa' a' n' wc' c' es' ws' k1 k2 k3 k4 s => ih (i + 1) n' w' wa' a' wc' c' es' ws' (by omega) k4 k3 k1 k2 s) s
      refine ⟨by omega, by omega, wA_some ?_⟩
      rw [show ((i : Int)).toNat = i from rfl]
      refine Sep.LdI_arg s (by rw [add_add]; exact hc 0 _ rfl) ?_
      refine Sep.LdI_arg s (by rw [add_add]; exact hc 1 _ rfl) ?_
      refine Sep.LdI_arg s (by rw [add_add]; exact hc 2 _ rfl) ?_
      refine Sep.Al s fun px w1 s => ?_
      rw [zc27] at s
      refine Sep.St s (i := 0) rfl rfl rfl fun w2 s => ?_
      refine Sep.St s (i := 0) rfl rfl rfl fun w3 s => ?_
      refine Sep.St s (i := 0) rfl rfl rfl fun w4 s => ?_
      simp only [List.set_cons_zero, List.set_cons_succ] at s
      cases few with
      | false =>
        rw [cond_false]
        exact next px x w4 s
      | true =>
        rw [cond_true]
        have s4 : Sep No W w4.drew _ := s
        refine Sep.LdI s4 (i := 0) (j := 1) rfl rfl rfl ?_
        refine Sep.LdI s4 (i := 0) (j := 2) rfl rfl rfl ?_
        refine herdsmanref1_Within.spec (by decide) (by decide) (by decide) ?_
        refine ⟨Sep.cell s4 (i := 0) rfl rfl rfl, ?_⟩
        refine herdsmanref1_Within.spec (by decide) (by decide) (by decide) ?_
        refine Sep.St s4 (i := 0) rfl rfl rfl fun w5 s => ?_
        refine Sep.St s (i := 0) rfl rfl rfl fun w6 s => ?_
        simp only [List.set_cons_zero, List.set_cons_succ] at s
        exact next px (x.1, -3 + x.2.1 % (3 - -3 + 1), 0 + x.2.2 % (4 - 0 + 1)) w6 s
    · rw [decide_eq_false (by omega), cond_false]
      exact herdsmanlaw13_told.spec s fun w' s => hQ w' (Sep.drop (Sep.drop s))
theorem herdsmanlaw13_HeapPlays.spec (hA : ArgRow W la ln 3 ask l) (hQ : ∀ w', Sep No W w' [] → Q true w') : herdsmanlaw13_HeapPlays.call la ln lc few W Q := by
  refine herdsmanlaw13_HeapPlays.body _ _ _ _ _ _ ?_
  unfold herdsmanlaw13_HeapPlays.sh
  refine heap_New.spec (W := W) (F := No) (L := []) Sep.nil fun p w1 s => isNone_pt ?_
  exact ⟨121, Plays_loop hA hQ 120 0 0 w1 none none 0 0 [] [] (by omega) (by omega) rfl (.refl _) .nil (Sep.row_nil s 30 2)⟩
end
theorem HeapPlays_law : LawOk P 3 [.sl 3 (.agg 3 [(0, 1, .int .i64), (1, 1, .int .i64), (2, 1, .int .i64)]), .bool] := by
  intro W args h
  obtain ⟨v0, r, rfl, h0, h⟩ := RdAll.cons h
  obtain ⟨v1, r, rfl, h1, h⟩ := RdAll.cons h
  obtain rfl := RdAll.nil h
  obtain ⟨a, n, c, xs, rfl, _, _, _, k4, _⟩ := rdV_row (f := ask) (Pr := fun _ => True) (fun es k1 k2 => by
    match es, k1 with
    | [v0, v1, v2], _ =>
      obtain ⟨_, k2⟩ := rd_agg k2
      obtain ⟨q0, k2⟩ := rdF_cons k2
      obtain ⟨q1, k2⟩ := rdF_cons k2
      obtain ⟨q2, k2⟩ := rdF_cons k2
      obtain ⟨x, rfl, _⟩ := rd_int (w := W) q0
      obtain ⟨y, rfl, _⟩ := rd_int (w := W) q1
      obtain ⟨z, rfl, _⟩ := rd_int (w := W) q2
      exact ⟨(x, y, z), rfl, trivial⟩) h0
  obtain ⟨b, rfl⟩ := rdV_bool h1
  exact herdsmanlaw13_HeapPlays.spec (Q := fun r W' => r = true ∧ Go.RowKit.Below W.heap.size W W') k4 fun w' s => ⟨rfl, sep_below s⟩
end Go.Proofs.Yticibkdeiigocaa.S
