/- Layer 18: the document's Use, Keys; LruPlays answers true. -/
import Derived.Test.YtfkpabfamfeggaaUH
set_option linter.unusedVariables false
set_option linter.unusedSimpArgs false
namespace Go.Proofs.Ytfkpabfamfeggaa.S
open Go.Sx
open Go.Maps (Keyed)
attribute [local irreducible] LdI LdB LdStr LdP LdS LdM LdV St Bx Al App Cpy MkS MkM EqK RunK RunU CallK SlK blkA rowA joinA mapA
section
variable {F : Nat → Prop} {W w : World} {L : List As} {q : Nat} {k : Int} {l rest : KS} {ra ta : Option Addr} {rn rc tn tc : Nat} {key : Int × Int}
theorem Use_b16 {Q : Int → Bool → Bool → World → Prop} {slot : Nat} {had out : Bool} {ov : Value} (hr : rest.length ≤ 1000) (hT : Sl w ta tn tc 3 entc rest) (s : Sep F W w (blkA q 38 [.int .i64 k, ov] :: L))
    (h : ∀ ra rc w', Sep F W w' (blkA q 38 [.int .i64 k, .slice ra (1 + tn) rc] :: rowA ra (1 + tn) rc 56 3 (flat entc ((key, slot) :: rest)) :: L) → Q slot had out w') :
    herdsmanref18_Lru_Use.b16 Q (some ⟨q, 0, none⟩) key.1 key.2 slot had out ta tn tc w := by
  unfold herdsmanref18_Lru_Use.b16
  have hl := hT.len
  have s1 := Sep.nil (F := No) (w := w)
  refine Sep.Bx s1 fun b w1 s1 => ?_
  have hT1 := hT.fr (sep_fr s1)
  have sb := Sep.gains s s1
  have sb := Sep.blk_row (n := 1) (size := 3) sb (i := 0) rfl rfl (by decide) (entc_one (key, slot))
  simp only [List.set_cons_zero, List.singleton_append] at sb
  have src := hT1.src (e := 56) entc_len entc_one
  refine Sep.App tab_ok sb (i := 0) (size := 3) (bytes := 24) rfl rfl rfl rfl rfl rfl (by decide) rfl src (by simp only [maxLen]; omega) (by omega) hT1.nil fun a1 c1 w2 s2 => ?_
  simp only [List.set_cons_zero] at s2
  refine wA_some ?_
  refine Sep.St s2 (i := 1) rfl rfl rfl fun w s => ?_
  simp only [List.set_cons_zero, List.set_cons_succ] at s
  exact h _ _ _ (Sep.perm s (List.Perm.swap ..))
theorem addEnt {n c : Nat} {a : Option Addr} {es : KS} {x : (Int × Int) × Nat} {K : Option Addr → Nat → Nat → World → Prop} (s : Sep F W w (rowA a n c 56 3 (flat entc es) :: L)) (hn : n ≤ 1000000000)
    (h : ∀ a' c' w', Sep F W w' (rowA a' (n + 1) c' 56 3 (flat entc (es ++ [x])) :: L) → K a' (n + 1) c' w') : Bx [.int .i64 x.1.1, .int .i64 x.1.2, .int .i64 x.2] 56 w fun p w1 => App P #[36, 36] 36 (.slice a n c) (.slice (some p) 1 1) w1 K := by
  refine Sep.Bx s fun b w1 s1 => ?_
  have src : Src w1 (some ⟨b, 0, none⟩) 1 3 (entc x) := ⟨rfl, entc_one x, fun j u hj => by rw [add_flat, Nat.zero_add]; exact Sep.cell s1 (i := 0) rfl rfl hj⟩
  refine Sep.App tab_ok s1 (i := 1) (size := 3) (bytes := 24) rfl rfl rfl rfl rfl rfl (by decide) rfl src (by simp only [maxLen]; omega) (by omega) (fun e => by cases e) fun a1 c1 w2 s2 => ?_
  simp only [List.set_cons_zero, List.set_cons_succ] at s2
  have e : flat entc es ++ entc x = flat entc (es ++ [x]) := by rw [flat_append]; simp [flat]
  rw [e] at s2
  exact h _ _ _ (Sep.drop s2)
attribute [local irreducible] herdsmanref18_Lru_Use.b16 in
theorem ref_Use.spec {Q : Int → Bool → Bool → World → Prop} (hk : 1 ≤ k) (s : Sep F W w (blkA q 38 [.int .i64 k, .slice ra rn rc] :: rowA ra rn rc 56 3 (flat entc l) :: L)) (hl : l.length ≤ 1000) (hg : Good k l)
    (h : ∀ ra rn rc w', Sep F W w' (blkA q 38 [.int .i64 k, .slice ra rn rc] :: rowA ra rn rc 56 3 (flat entc (useP k l key).2) :: L) → Q (useP k l key).1.1 (useP k l key).1.2.1 (useP k l key).1.2.2 w') :
    herdsmanref18_Lru_Use.call (some ⟨q, 0, none⟩) key.1 key.2 w Q := by
  refine herdsmanref18_Lru_Use.body _ _ _ _ _ ?_
  unfold herdsmanref18_Lru_Use.sh
  refine ref_Find.spec s hl ?_
  have hlen := (Sep.sl s (i := 1) rfl entc_len (by decide)).len
  -- what is behind the loop
  have tail : ∀ (ta : Option Addr) (tn tc : Nat) (w : World), Sep F W w (rowA ta tn tc 56 3 (flat entc (l.filter (fun p => !decide (p.1 = key)))) :: blkA q 38 [.int .i64 k, .slice ra rn rc] :: rowA ra rn rc 56 3 (flat entc l) :: L) →
      cond (!(decide (findP l key ≥ 0)))
        (wA (some (⟨q, 0, none⟩ : Addr)) fun p67 => LdI .i64 p67 w fun x69 => cond (decide ((tn : Int) < x69))
          (herdsmanref18_Lru_free.call (some ⟨q, 0, none⟩) w fun r73 w0_1 => herdsmanref18_Lru_Use.b16 Q (some ⟨q, 0, none⟩) key.1 key.2 r73 (decide (findP l key ≥ 0)) false ta tn tc w0_1)
          (herdsmanref18_Lru_Use.b12 Q (some ⟨q, 0, none⟩) key.1 key.2 (findP l key) (decide (findP l key ≥ 0)) false ta tn tc w))
        (herdsmanref18_Lru_Use.b12 Q (some ⟨q, 0, none⟩) key.1 key.2 (findP l key) (decide (findP l key ≥ 0)) false ta tn tc w) := by
    intro ta tn tc w s
    have hT := Sep.sl s (i := 0) rfl entc_len (by decide)
    have htl := hT.len
    have hfl := List.length_filter_le (fun p : (Int × Int) × Nat => !decide (p.1 = key)) l
    unfold useP at h
    cases hf : l.find? (fun p => decide (p.1 = key)) with
    | some x =>
      obtain ⟨e1, hx⟩ := find_some hf
      rw [hf] at h
      simp only at h
      have hfp : findP l key = x.2 := by unfold findP; rw [hf]
      rw [hfp, decide_eq_true (show (x.2 : Int) ≥ 0 by omega), Bool.not_true, cond_false]
      unfold herdsmanref18_Lru_Use.b12
      rw [Bool.not_true, cond_false]
      exact Use_b16 (by omega) hT (Sep.sub s (.cons _ (.cons_cons _ (.cons _ (List.Sublist.refl _))))) fun ra rc w s => h _ _ _ _ s
    | none =>
      have hno := find_none hf
      rw [hf] at h
      simp only at h
      have hfp : findP l key = -1 := by unfold findP; rw [hf]
      have hall : l.filter (fun p => !decide (p.1 = key)) = l := List.filter_eq_self.2 fun p hp => by simp [hno p hp]
      rw [hall] at s hT htl
      rw [hfp, decide_eq_false (show ¬ ((-1 : Int) ≥ 0) by decide), Bool.not_false, cond_true]
      refine wA_some ?_
      refine Sep.LdI s (i := 1) rfl rfl rfl ?_
      by_cases hroom : (l.length : Int) < k
      · rw [if_pos hroom] at h
        rw [decide_eq_true (by omega), cond_true]
        have s' := Sep.perm s (List.Perm.trans (List.Perm.swap ..) (List.Perm.cons _ (List.Perm.swap ..)))
        refine ref_free.spec s' hl hg ?_
        exact Use_b16 (by omega) hT (Sep.sub s (.cons _ (.cons_cons _ (.cons _ (List.Sublist.refl _))))) fun ra rc w s => h _ _ _ _ s
      · rw [if_neg hroom] at h
        rw [decide_eq_false (by omega), cond_false]
        have hne : l ≠ [] := fun e => by rw [e] at hroom; simp at hroom; omega
        have hpos := List.length_pos_iff.2 hne
        unfold herdsmanref18_Lru_Use.b12
        rw [Bool.not_false, cond_true, wrap_i64 (n := (tn : Int) - 1) (by omega) (by omega)]
        rw [List.getLast?_eq_some_getLast hne] at h
        simp only at h
        have hlast : l[tn - 1]? = some (l.getLast hne) := by rw [← List.getLast?_eq_some_getLast hne, List.getLast?_eq_getElem?]; congr 1; omega
        refine hT.El (k := tn - 1) (by omega) (by omega) fun pp y hy hc => ?_
        rw [hlast] at hy
        cases hy
        refine LdI_cell (hc 2 _ rfl) ?_
        refine hT.hi (m := tn - 1) (by omega) (by omega) fun ua uc hU => ?_
        have e : l.take (tn - 1) = l.dropLast := by rw [List.dropLast_eq_take]; congr 1; omega
        rw [e] at hU
        exact Use_b16 (by rw [List.length_dropLast]; omega) hU (Sep.sub s (.cons _ (.cons_cons _ (.cons _ (List.Sublist.refl _))))) fun ra rc w s => h _ _ _ _ s
  have loop : ∀ (post pre : KS) (i : Nat) (ta : Option Addr) (tn tc : Nat) (w : World), l = pre ++ post → i = pre.length →
      Sep F W w (rowA ta tn tc 56 3 (flat entc (pre.filter (fun p => !decide (p.1 = key)))) :: blkA q 38 [.int .i64 k, .slice ra rn rc] :: rowA ra rn rc 56 3 (flat entc l) :: L) →
      herdsmanref18_Lru_Use.b6 Q (post.length + 1) (some ⟨q, 0, none⟩) key.1 key.2 (findP l key) (decide (findP l key ≥ 0)) false ta tn tc i w := by
    intro post
    induction post with
    | nil =>
      intro pre i ta tn tc w e hi s
      rw [List.append_nil] at e
      subst e
      show herdsmanref18_Lru_Use.s6 Q (herdsmanref18_Lru_Use.b6 Q 0) _ _ _ _ _ _ _ _ _ _ _
      unfold herdsmanref18_Lru_Use.s6
      refine wA_some ?_
      refine Sep.LdS s (i := 1) rfl rfl rfl ?_
      rw [decide_eq_false (by omega), cond_false]
      exact tail ta tn tc w s
    | cons x post ih =>
      intro pre i ta tn tc w e hi s
      have hll := congrArg List.length e
      rw [List.length_append, List.length_cons] at hll
      have hx0 : l[i]? = some x := by rw [e, hi]; simp
      have hA := Sep.sl s (i := 2) rfl entc_len (by decide)
      have htl := (Sep.sl s (i := 0) rfl entc_len (by decide)).len
      have hfl := List.length_filter_le (fun p : (Int × Int) × Nat => !decide (p.1 = key)) pre
      have add : x.1 ≠ key → herdsmanref18_Lru_Use.b9 (herdsmanref18_Lru_Use.b6 Q (post.length + 1)) Q (some ⟨q, 0, none⟩) key.1 key.2 (findP l key) (decide (findP l key ≥ 0)) false ta tn tc i w := fun hne => by
        unfold herdsmanref18_Lru_Use.b9
        refine wA_some ?_
        refine Sep.LdS s (i := 1) rfl rfl rfl ?_
        refine hA.El rfl (by omega) fun pp y hy hc => ?_
        rw [hx0] at hy
        cases hy
        refine LdI_cell (hc 0 _ rfl) ?_
        refine LdI_cell (hc 1 _ rfl) ?_
        refine LdI_cell (hc 2 _ rfl) ?_
        refine addEnt (x := x) s (by omega) fun a c w s => ?_
        rw [wrap_i64 (n := (i : Int) + 1) (by omega) (by omega)]
        refine ih (pre ++ [x]) (i + 1) a _ c w (by rw [e]; simp) (by simp [hi]) ?_
        rw [List.filter_append, List.filter_cons_of_pos (by simp [hne])]
        exact s
      show herdsmanref18_Lru_Use.s6 Q (herdsmanref18_Lru_Use.b6 Q (post.length + 1)) _ _ _ _ _ _ _ _ _ _ _
      unfold herdsmanref18_Lru_Use.s6
      refine wA_some ?_
      refine Sep.LdS s (i := 1) rfl rfl rfl ?_
      rw [decide_eq_true (by omega), cond_true]
      refine wA_some ?_
      refine Sep.LdS s (i := 1) rfl rfl rfl ?_
      refine hA.El rfl (by omega) fun pp y hy hc => ?_
      rw [hx0] at hy
      cases hy
      have c0 := hc 0 _ rfl
      rw [add_zero] at c0
      refine LdI_cell c0 ?_
      by_cases h1 : x.1.1 = key.1
      · rw [show (x.1.1 != key.1) = false by rw [bne_eq_false_iff_eq]; exact h1, cond_false]
        refine wA_some ?_
        refine Sep.LdS s (i := 1) rfl rfl rfl ?_
        refine hA.El rfl (by omega) fun pp y hy hc => ?_
        rw [hx0] at hy
        cases hy
        refine LdI_cell (hc 1 _ rfl) ?_
        by_cases h2 : x.1.2 = key.2
        · rw [show (x.1.2 != key.2) = false by rw [bne_eq_false_iff_eq]; exact h2, cond_false, wrap_i64 (n := (i : Int) + 1) (by omega) (by omega)]
          refine ih (pre ++ [x]) (i + 1) ta tn tc w (by rw [e]; simp) (by simp [hi]) ?_
          rw [List.filter_append, List.filter_cons_of_neg (by simp [Prod.ext h1 h2]), List.filter_nil, List.append_nil]
          exact s
        · rw [show (x.1.2 != key.2) = true by rw [bne_iff_ne]; exact h2, cond_true]
          exact add fun e => h2 (by rw [e])
      · rw [show (x.1.1 != key.1) = true by rw [bne_iff_ne]; exact h1, cond_true]
        exact add fun e => h1 (by rw [e])
  exact ⟨l.length + 1, loop l [] 0 none 0 0 w rfl rfl (Sep.row_nil s 56 3)⟩
theorem ref_Keys.spec {Q : Option Addr → Nat → Nat → World → Prop} (s : Sep F W w (blkA q 38 [.int .i64 k, .slice ra rn rc] :: rowA ra rn rc 56 3 (flat entc l) :: L)) (hl : l.length ≤ 1000)
    (h : ∀ a n c w', Sep F W w' (rowA a n c 29 2 (flat keyc (l.map (·.1))) :: blkA q 38 [.int .i64 k, .slice ra rn rc] :: rowA ra rn rc 56 3 (flat entc l) :: L) → Q a n c w') : herdsmanref18_Lru_Keys.call (some ⟨q, 0, none⟩) w Q := by
  refine herdsmanref18_Lru_Keys.body _ _ _ ?_
  unfold herdsmanref18_Lru_Keys.sh
  have hlen := (Sep.sl s (i := 1) rfl entc_len (by decide)).len
  have loop : ∀ (post pre : KS) (i : Nat) (ta : Option Addr) (tn tc : Nat) (w : World), l = pre ++ post → i = pre.length → tn = i →
      Sep F W w (rowA ta tn tc 29 2 (flat keyc (pre.map (·.1))) :: blkA q 38 [.int .i64 k, .slice ra rn rc] :: rowA ra rn rc 56 3 (flat entc l) :: L) → herdsmanref18_Lru_Keys.b3 Q (post.length + 1) (some ⟨q, 0, none⟩) ta tn tc i w := by
    intro post
    induction post with
    | nil =>
      intro pre i ta tn tc w e hi htn s
      rw [List.append_nil] at e
      subst e
      show herdsmanref18_Lru_Keys.s3 Q (herdsmanref18_Lru_Keys.b3 Q 0) _ _ _ _ _ _
      unfold herdsmanref18_Lru_Keys.s3
      refine wA_some ?_
      refine Sep.LdS s (i := 1) rfl rfl rfl ?_
      rw [decide_eq_false (by omega), cond_false]
      exact h _ _ _ _ s
    | cons x post ih =>
      intro pre i ta tn tc w e hi htn s
      have hll := congrArg List.length e
      rw [List.length_append, List.length_cons] at hll
      have hx0 : l[i]? = some x := by rw [e, hi]; simp
      show herdsmanref18_Lru_Keys.s3 Q (herdsmanref18_Lru_Keys.b3 Q (post.length + 1)) _ _ _ _ _ _
      unfold herdsmanref18_Lru_Keys.s3
      refine wA_some ?_
      refine Sep.LdS s (i := 1) rfl rfl rfl ?_
      rw [decide_eq_true (by omega), cond_true]
      have s := Sep.drew s
      have hA := Sep.sl s (i := 2) rfl entc_len (by decide)
      refine wA_some ?_
      refine Sep.LdS s (i := 1) rfl rfl rfl ?_
      refine hA.El rfl (by omega) fun pp y hy hc => ?_
      rw [hx0] at hy
      cases hy
      have c0 := hc 0 _ rfl
      rw [add_zero] at c0
      refine LdI_cell c0 ?_
      refine wA_some ?_
      refine Sep.LdS s (i := 1) rfl rfl rfl ?_
      refine hA.El rfl (by omega) fun pp y hy hc => ?_
      rw [hx0] at hy
      cases hy
      refine LdI_cell (hc 1 _ rfl) ?_
      refine addKey s (by omega) fun a c w s => ?_
      rw [wrap_i64 (n := (i : Int) + 1) (by omega) (by omega)]
      refine ih (pre ++ [x]) (i + 1) a _ c w (by rw [e]; simp) (by simp [hi]) (by omega) ?_
      rw [List.map_append]
      exact s
  exact ⟨l.length + 1, loop l [] 0 none 0 0 w rfl rfl rfl (Sep.row_nil s 29 2)⟩
end
end Go.Proofs.Ytfkpabfamfeggaa.S
