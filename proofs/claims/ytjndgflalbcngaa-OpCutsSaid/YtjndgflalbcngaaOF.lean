/- Layer 26: write, Encode; OpScripts answers true. -/
import Derived.Test.YtjndgflalbcngaaOE
set_option linter.unusedVariables false
set_option linter.unusedSimpArgs false
namespace Go.Proofs.Ytjndgflalbcngaa.S
open Go.Sx
attribute [local irreducible] LdI LdB LdStr LdP LdS LdM LdV St Bx Al App Cpy MkS MkM EqK RunK RunU CallK SlK blkA rowA joinA
def encP : List OpP → Option (List Int)
  | [] => some []
  | o :: os => if mayP o = false ∨ (isCut o ∧ os ≠ []) then none else (encP os).map (wrP o ++ ·)
theorem wrP_len (o : OpP) : (wrP o).length ≤ 13 + o.m.length := by
  unfold wrP
  have := shAB o.k
  split
  · split <;> simp <;> omega
  · split <;> simp [putI_length] <;> omega
theorem wrP_rng {o : OpP} (h : Rng o.m) : Rng (wrP o) := by
  unfold wrP
  split
  · split
    · exact Rng.app (Rng.mk (by omega) Rng.nil) h
    · exact h
  · refine Rng.app (Rng.mk (by omega) ?_) (Rng.app (putI_rng _ _) (Rng.app (putI_rng _ _) h))
    split
    · exact putI_rng _ _
    · exact Rng.nil
section
variable {F : Nat → Prop} {W w w0 : World} {L : List As} {a a' b : Option Addr} {n c n' c' m q : Nat} {bs cs : List Int}
theorem app8 {x : Int} {K : Option Addr → Nat → Nat → World → Prop} (s : Sep F W w (rowA a n c 5 1 (flat by8 bs) :: L)) (hn : n ≤ 2000000000000)
    (k : ∀ a' c' w', Sep F W w' (rowA a' (n + 1) c' 5 1 (flat by8 (bs ++ [x])) :: L) → K a' (n + 1) c' w') : Bx [.int .u8 x] 5 w fun p w1 => App P #[22, 22] 22 (.slice a n c) (.slice (some p) 1 1) w1 K := by
  refine Sep.Bx s fun b w s => ?_
  have src : Src w (some ⟨b, 0, none⟩) 1 1 [.int .u8 x] := ⟨rfl, (fun u hu => by rw [List.mem_singleton.1 hu]; rfl), fun j u hj => by rw [add_flat, Nat.zero_add]; exact Sep.cell s (i := 0) rfl rfl hj⟩
  refine Sep.App tab_ok s (i := 1) (size := 1) (bytes := 1) rfl rfl rfl rfl rfl rfl (by decide) rfl src (by simp only [maxLen]; omega) (by omega) (fun e => by cases e) fun a1 c1 w1 s1 => ?_
  simp only [List.set_cons_zero, List.set_cons_succ] at s1
  have e : flat by8 bs ++ [.int .u8 x] = flat by8 (bs ++ [x]) := by rw [flat_append]; rfl
  rw [e] at s1
  exact k _ _ _ (Sep.drop s1)
theorem appSl {K : Option Addr → Nat → Nat → World → Prop} (s : Sep F W w (rowA a n c 5 1 (flat by8 bs) :: L)) (h : Sl w b m q 1 by8 cs) (hn : n + m ≤ 2000000000000)
    (k : ∀ a' c' w', Sep F W w' (rowA a' (n + m) c' 5 1 (flat by8 (bs ++ cs)) :: L) → K a' (n + m) c' w') : App P #[22, 22] 22 (.slice a n c) (.slice b m q) w K := by
  have src := h.src (e := 5) by8_len by8_one
  refine Sep.App tab_ok s (i := 0) (size := 1) (bytes := 1) rfl rfl rfl rfl rfl rfl (by decide) rfl src (by simp only [maxLen]; omega) (by omega) h.nil fun a1 c1 w1 s1 => ?_
  simp only [List.set_cons_zero] at s1
  rw [← flat_append] at s1
  exact k _ _ _ s1
theorem op_write.spec {ba ma : Option Addr} {bn bc mn mc : Nat} {o : OpP} {Q : Option Addr → Nat → Nat → World → Prop} (s : Sep No w0 w (rowA ba bn bc 5 1 (flat by8 bs) :: L)) (hm : Sl w0 ma mn mc 1 by8 o.m) (hmn : mn ≤ 1000000000) (hbn : bn ≤ 500000000000)
    (h : ∀ ra rn rc w', rn = bn + (wrP o).length → Sep No w0 w' (rowA ra rn rc 5 1 (flat by8 (bs ++ wrP o)) :: L) → Q ra rn rc w') : op_write.call ba bn bc o.k o.A o.B ma mn mc w Q := by
  refine op_write.body _ _ _ _ _ _ _ _ _ _ _ ?_
  unfold op_write.sh
  have hl := hm.len
  refine Sep.Bx s fun ob w s => ?_
  have s := Sep.perm s (List.Perm.swap ..)
  refine Sep.LdI s (i := 1) rfl rfl rfl ?_
  unfold wrP at h
  by_cases hk : o.k = 0
  · rw [show (o.k == 0) = true by rw [beq_iff_eq]; exact hk, cond_true]
    rw [if_pos hk] at h
    refine Sep.LdI s (i := 1) rfl rfl rfl ?_
    have b4 : ∀ (ra : Option Addr) (rn rc : Nat) (zs : List Int) (w : World), rn = bn + zs.length → zs.length ≤ 1 → Sep No w0 w (rowA ra rn rc 5 1 (flat by8 (bs ++ zs)) :: blkA ob 30 [.int .i64 o.k, .int .i64 o.A, .int .i64 o.B, .slice ma mn mc] :: L) →
        (if o.A ≥ 0 then [o.A % 256] else []) = zs → op_write.b4 Q ra rn rc ⟨ob, 0, none⟩ w := by
      intro ra rn rc zs w hrn hz s e
      rw [e] at h
      unfold op_write.b4
      refine Sep.LdS s (i := 1) rfl rfl rfl ?_
      refine appSl s (hm.fr (sep_fr s)) (by omega) fun ra rc w s => ?_
      rw [List.append_assoc] at s
      exact h _ _ _ _ (by rw [List.length_append]; omega) (Sep.drop (Sep.perm s (List.Perm.swap ..)))
    by_cases hA : o.A ≥ 0
    · rw [decide_eq_true hA, cond_true]
      refine Sep.LdI s (i := 1) rfl rfl rfl ?_
      rw [wrap_u8']
      refine app8 s (by omega) fun ra rc w s => ?_
      exact b4 _ _ _ [o.A % 256] _ rfl (Nat.le_refl _) s (if_pos hA)
    · rw [decide_eq_false hA, cond_false]
      exact b4 _ _ _ [] _ rfl (by simp) (by rw [List.append_nil]; exact s) (if_neg hA)
  · rw [show (o.k == 0) = false by rw [beq_eq_false_iff_ne]; exact hk, cond_false]
    rw [if_neg hk] at h
    refine Sep.LdI s (i := 1) rfl rfl rfl ?_
    refine op_shaped.spec s fun w s _ => ?_
    refine Sep.Al s fun sb w s => ?_
    simp only [zc47] at s
    have s := Sep.perm s (List.Perm.swap ..)
    refine Sep.St s (i := 1) rfl rfl rfl fun w s => ?_
    refine Sep.St s (i := 1) rfl rfl rfl fun w s => ?_
    refine Sep.St s (i := 1) rfl rfl rfl fun w s => ?_
    simp only [List.set_cons_zero, List.set_cons_succ] at s
    refine Sep.LdI s (i := 2) rfl rfl rfl ?_
    rw [wrap_u8']
    refine app8 s (by omega) fun ra rc w s => ?_
    refine Sep.LdB s (i := 1) rfl rfl rfl ?_
    have hab := shAB o.k
    have b9 : ∀ (ra : Option Addr) (rn rc : Nat) (zs : List Int) (w : World), rn = bn + zs.length → zs.length ≤ 5 → Sep No w0 w (rowA ra rn rc 5 1 (flat by8 (bs ++ zs)) :: blkA sb 47 [.int .i64 (shA o.k : Nat), .int .i64 (shB o.k : Nat), .bool (shL o.k)] :: blkA ob 30 [.int .i64 o.k, .int .i64 o.A, .int .i64 o.B, .slice ma mn mc] :: L) →
        ((o.k % 256) :: (if shL o.k = true then putI o.m.length 4 else [])) = zs → op_write.b9 Q ra rn rc ⟨ob, 0, none⟩ ⟨sb, 0, none⟩ w := by
      intro ra rn rc zs w hrn hz s e
      rw [e] at h
      unfold op_write.b9
      have s := Sep.drew s
      repeat' first
        | refine Sep.LdI s (i := 0) rfl rfl rfl ?_
        | refine Sep.LdS s (i := 0) rfl rfl rfl ?_
        | refine Sep.LdB s (i := 0) rfl rfl rfl ?_
        | refine Sep.LdP s (i := 0) rfl rfl rfl ?_
        | refine And.intro (Sep.cell s (i := 0) rfl rfl rfl) ?_
        | refine Sep.LdI s (i := 1) rfl rfl rfl ?_
        | refine Sep.LdS s (i := 1) rfl rfl rfl ?_
        | refine Sep.LdB s (i := 1) rfl rfl rfl ?_
        | refine Sep.LdP s (i := 1) rfl rfl rfl ?_
        | refine And.intro (Sep.cell s (i := 1) rfl rfl rfl) ?_
        | refine Sep.LdI s (i := 2) rfl rfl rfl ?_
        | refine Sep.LdS s (i := 2) rfl rfl rfl ?_
        | refine Sep.LdB s (i := 2) rfl rfl rfl ?_
        | refine Sep.LdP s (i := 2) rfl rfl rfl ?_
        | refine And.intro (Sep.cell s (i := 2) rfl rfl rfl) ?_
        | (replace s := Sep.drew s; first
          | refine Sep.LdI s (i := 0) rfl rfl rfl ?_
          | refine Sep.LdS s (i := 0) rfl rfl rfl ?_
          | refine Sep.LdB s (i := 0) rfl rfl rfl ?_
          | refine Sep.LdP s (i := 0) rfl rfl rfl ?_
          | refine And.intro (Sep.cell s (i := 0) rfl rfl rfl) ?_
          | refine Sep.LdI s (i := 1) rfl rfl rfl ?_
          | refine Sep.LdS s (i := 1) rfl rfl rfl ?_
          | refine Sep.LdB s (i := 1) rfl rfl rfl ?_
          | refine Sep.LdP s (i := 1) rfl rfl rfl ?_
          | refine And.intro (Sep.cell s (i := 1) rfl rfl rfl) ?_
          | refine Sep.LdI s (i := 2) rfl rfl rfl ?_
          | refine Sep.LdS s (i := 2) rfl rfl rfl ?_
          | refine Sep.LdB s (i := 2) rfl rfl rfl ?_
          | refine Sep.LdP s (i := 2) rfl rfl rfl ?_
          | refine And.intro (Sep.cell s (i := 2) rfl rfl rfl) ?_)
      refine op_put.spec s (by omega) (by omega) fun ra rn1 rc w hrn1 s => ?_
      repeat' first
        | refine Sep.LdI s (i := 0) rfl rfl rfl ?_
        | refine Sep.LdS s (i := 0) rfl rfl rfl ?_
        | refine Sep.LdB s (i := 0) rfl rfl rfl ?_
        | refine Sep.LdP s (i := 0) rfl rfl rfl ?_
        | refine And.intro (Sep.cell s (i := 0) rfl rfl rfl) ?_
        | refine Sep.LdI s (i := 1) rfl rfl rfl ?_
        | refine Sep.LdS s (i := 1) rfl rfl rfl ?_
        | refine Sep.LdB s (i := 1) rfl rfl rfl ?_
        | refine Sep.LdP s (i := 1) rfl rfl rfl ?_
        | refine And.intro (Sep.cell s (i := 1) rfl rfl rfl) ?_
        | refine Sep.LdI s (i := 2) rfl rfl rfl ?_
        | refine Sep.LdS s (i := 2) rfl rfl rfl ?_
        | refine Sep.LdB s (i := 2) rfl rfl rfl ?_
        | refine Sep.LdP s (i := 2) rfl rfl rfl ?_
        | refine And.intro (Sep.cell s (i := 2) rfl rfl rfl) ?_
        | (replace s := Sep.drew s; first
          | refine Sep.LdI s (i := 0) rfl rfl rfl ?_
          | refine Sep.LdS s (i := 0) rfl rfl rfl ?_
          | refine Sep.LdB s (i := 0) rfl rfl rfl ?_
          | refine Sep.LdP s (i := 0) rfl rfl rfl ?_
          | refine And.intro (Sep.cell s (i := 0) rfl rfl rfl) ?_
          | refine Sep.LdI s (i := 1) rfl rfl rfl ?_
          | refine Sep.LdS s (i := 1) rfl rfl rfl ?_
          | refine Sep.LdB s (i := 1) rfl rfl rfl ?_
          | refine Sep.LdP s (i := 1) rfl rfl rfl ?_
          | refine And.intro (Sep.cell s (i := 1) rfl rfl rfl) ?_
          | refine Sep.LdI s (i := 2) rfl rfl rfl ?_
          | refine Sep.LdS s (i := 2) rfl rfl rfl ?_
          | refine Sep.LdB s (i := 2) rfl rfl rfl ?_
          | refine Sep.LdP s (i := 2) rfl rfl rfl ?_
          | refine And.intro (Sep.cell s (i := 2) rfl rfl rfl) ?_)
      refine op_put.spec s (by omega) (by omega) fun ra rn2 rc w hrn2 s => ?_
      repeat' first
        | refine Sep.LdI s (i := 0) rfl rfl rfl ?_
        | refine Sep.LdS s (i := 0) rfl rfl rfl ?_
        | refine Sep.LdB s (i := 0) rfl rfl rfl ?_
        | refine Sep.LdP s (i := 0) rfl rfl rfl ?_
        | refine And.intro (Sep.cell s (i := 0) rfl rfl rfl) ?_
        | refine Sep.LdI s (i := 1) rfl rfl rfl ?_
        | refine Sep.LdS s (i := 1) rfl rfl rfl ?_
        | refine Sep.LdB s (i := 1) rfl rfl rfl ?_
        | refine Sep.LdP s (i := 1) rfl rfl rfl ?_
        | refine And.intro (Sep.cell s (i := 1) rfl rfl rfl) ?_
        | refine Sep.LdI s (i := 2) rfl rfl rfl ?_
        | refine Sep.LdS s (i := 2) rfl rfl rfl ?_
        | refine Sep.LdB s (i := 2) rfl rfl rfl ?_
        | refine Sep.LdP s (i := 2) rfl rfl rfl ?_
        | refine And.intro (Sep.cell s (i := 2) rfl rfl rfl) ?_
        | (replace s := Sep.drew s; first
          | refine Sep.LdI s (i := 0) rfl rfl rfl ?_
          | refine Sep.LdS s (i := 0) rfl rfl rfl ?_
          | refine Sep.LdB s (i := 0) rfl rfl rfl ?_
          | refine Sep.LdP s (i := 0) rfl rfl rfl ?_
          | refine And.intro (Sep.cell s (i := 0) rfl rfl rfl) ?_
          | refine Sep.LdI s (i := 1) rfl rfl rfl ?_
          | refine Sep.LdS s (i := 1) rfl rfl rfl ?_
          | refine Sep.LdB s (i := 1) rfl rfl rfl ?_
          | refine Sep.LdP s (i := 1) rfl rfl rfl ?_
          | refine And.intro (Sep.cell s (i := 1) rfl rfl rfl) ?_
          | refine Sep.LdI s (i := 2) rfl rfl rfl ?_
          | refine Sep.LdS s (i := 2) rfl rfl rfl ?_
          | refine Sep.LdB s (i := 2) rfl rfl rfl ?_
          | refine Sep.LdP s (i := 2) rfl rfl rfl ?_
          | refine And.intro (Sep.cell s (i := 2) rfl rfl rfl) ?_)
      refine appSl s (hm.fr (sep_fr s)) (by omega) fun ra rc w s => ?_
      rw [List.append_assoc, List.append_assoc, List.append_assoc] at s
      exact h _ _ _ _ (by simp only [List.length_append, putI_length]; omega) (Sep.sub s (.cons_cons _ (.cons _ (.cons _ (List.Sublist.refl _)))))
    cases hL : shL o.k with
    | false =>
      rw [cond_false]
      exact b9 _ _ _ [o.k % 256] _ rfl (by simp) s (by rw [if_neg (by rw [hL]; decide)])
    | true =>
      rw [cond_true]
      refine Sep.LdS s (i := 2) rfl rfl rfl ?_
      refine op_put.spec (sz := 4) s (by decide) (by omega) fun ra rn rc w hrn s => ?_
      rw [List.append_assoc] at s
      refine b9 _ _ _ ((o.k % 256) :: putI (mn : Int) 4) _ ?_ ?_ s (by rw [if_pos hL, hl])
      · simp only [List.length_cons, putI_length]; omega
      · simp only [List.length_cons, putI_length]; omega
attribute [local irreducible] op_Encode.b7 in
theorem op_Encode.spec {os : List OpP} {Q : Option Addr → Nat → Nat → Int → World → Prop} (s0 : Sep F W w0 L) (hO : Ops w0 a n c os) (hn : n ≤ 1000) (hm : ∀ o ∈ os, o.m.length ≤ 100000000)
    (hno : encP os = none → ∀ w', Sep F W w' L → Fr No w0 w' → Q none 0 0 1 w')
    (hyes : ∀ bs, encP os = some bs → ∀ ra rn rc w', Sep F W w' (rowA ra rn rc 5 1 (flat by8 bs) :: L) → Fr No w0 w' → Q ra rn rc 0 w') : op_Encode.call a n c w0 Q := by
  refine op_Encode.body _ _ _ _ _ ?_
  unfold op_Encode.sh
  have hl := hO.len
  have loop : ∀ (m i : Nat) (ba : Option Addr) (bn bc : Nat) (bs : List Int) (w : World) (L' : List As), i + m = n → bn ≤ i * 100000020 → bn = bs.length → encP os = (encP (os.drop i)).map (bs ++ ·) →
      Sep No w0 w (rowA ba bn bc 5 1 (flat by8 bs) :: L') → op_Encode.b3 Q (m + 1) a n c ba bn bc a n c n i w := by
    intro m
    induction m with
    | zero =>
      intro i ba bn bc bs w L' hi hbn hbl he s
      show op_Encode.s3 Q (op_Encode.b3 Q 0) _ _ _ _ _ _ _ _ _ _ _ _
      unfold op_Encode.s3
      rw [decide_eq_false (by omega), cond_false]
      rw [List.drop_eq_nil_of_le (by omega)] at he
      simp only [encP, Option.map_some, List.append_nil] at he
      exact hyes _ he _ _ _ _ (Sep.gain s0 s (i := 0) rfl) (sep_fr s)
    | succ m ih =>
      intro i ba bn bc bs w L' hi hbn hbl he s
      show op_Encode.s3 Q (op_Encode.b3 Q (m + 1)) _ _ _ _ _ _ _ _ _ _ _ _
      unfold op_Encode.s3
      rw [decide_eq_true (by omega), cond_true]
      refine hO.Elf (sep_fr s) rfl (by omega) fun p o va vn vc ho hv hr hc => ?_
      refine LdOp hc ?_
      simp only
      obtain ⟨hil, ho'⟩ := List.getElem?_eq_some_iff.1 ho
      have hd : os.drop i = o :: os.drop (i + 1) := by rw [List.drop_eq_getElem_cons hil, ho']
      have hmo := hm o (List.mem_of_getElem? ho)
      have hvl := hv.len
      repeat' first
        | refine Sep.LdI s (i := 0) rfl rfl rfl ?_
        | refine Sep.LdS s (i := 0) rfl rfl rfl ?_
        | refine Sep.LdB s (i := 0) rfl rfl rfl ?_
        | refine Sep.LdP s (i := 0) rfl rfl rfl ?_
        | refine And.intro (Sep.cell s (i := 0) rfl rfl rfl) ?_
        | (refine Sep.St s (i := 0) rfl rfl rfl fun w s => ?_; simp only [List.set_cons_zero, List.set_cons_succ] at s)
        | refine Sep.Bx s fun b w s => ?_
        | (refine Sep.Al s fun b w s => ?_; simp only [zc30, zc47] at s)
        | (replace s := Sep.drew s; first
          | refine Sep.LdI s (i := 0) rfl rfl rfl ?_
          | refine Sep.LdS s (i := 0) rfl rfl rfl ?_
          | refine Sep.LdB s (i := 0) rfl rfl rfl ?_
          | refine Sep.LdP s (i := 0) rfl rfl rfl ?_
          | refine And.intro (Sep.cell s (i := 0) rfl rfl rfl) ?_
          | (refine Sep.St s (i := 0) rfl rfl rfl fun w s => ?_; simp only [List.set_cons_zero, List.set_cons_succ] at s)
          | refine Sep.Bx s fun b w s => ?_
          | (refine Sep.Al s fun b w s => ?_; simp only [zc30, zc47] at s))
      refine op_May.spec s (hv.fr (sep_fr s)) hr (by omega) fun w s _ => ?_
      have hnone : (mayP o = false ∨ (isCut o ∧ os.drop (i + 1) ≠ [])) → encP os = none := fun h => by
        rw [he, hd, encP, if_pos h]; rfl
      cases hmay : mayP o with
      | false =>
        rw [Bool.not_false, cond_true]
        exact hno (hnone (.inl hmay)) _ (Sep.call s0 (sep_fr s)) (sep_fr s)
      | true =>
        rw [Bool.not_true, cond_false]
        have next : ¬ (isCut o ∧ os.drop (i + 1) ≠ []) → ∀ (w : World) (ob : Nat) (L' : List As), Sep No w0 w (blkA ob 30 [.int .i64 o.k, .int .i64 o.A, .int .i64 o.B, .slice va vn vc] :: rowA ba bn bc 5 1 (flat by8 bs) :: L') →
            op_Encode.b7 (op_Encode.b3 Q (m + 1)) Q a n c ba bn bc ⟨ob, 0, none⟩ a n c n i w := by
          intro hcut w ob L' s
          unfold op_Encode.b7
          repeat' first
            | refine Sep.LdI s (i := 0) rfl rfl rfl ?_
            | refine Sep.LdS s (i := 0) rfl rfl rfl ?_
            | refine Sep.LdB s (i := 0) rfl rfl rfl ?_
            | refine Sep.LdP s (i := 0) rfl rfl rfl ?_
            | refine And.intro (Sep.cell s (i := 0) rfl rfl rfl) ?_
            | (replace s := Sep.drew s; first
              | refine Sep.LdI s (i := 0) rfl rfl rfl ?_
              | refine Sep.LdS s (i := 0) rfl rfl rfl ?_
              | refine Sep.LdB s (i := 0) rfl rfl rfl ?_
              | refine Sep.LdP s (i := 0) rfl rfl rfl ?_
              | refine And.intro (Sep.cell s (i := 0) rfl rfl rfl) ?_)
          have s := Sep.perm s (List.Perm.swap ..)
          refine op_write.spec s hv (by omega) (by omega) fun ra rn rc w hrn s => ?_
          rw [wrap_i64 (n := (i : Int) + 1) (by omega) (by omega)]
          have hw := wrP_len o
          refine ih (i + 1) ra rn rc _ w _ (by omega) (by omega) (by rw [List.length_append]; omega) ?_ s
          rw [he, hd, encP, if_neg (by rw [hmay]; simpa using hcut), Option.map_map]
          congr 1
          funext z
          simp
        have last : decide ((i : Int) < IntKind.wrap .i64 ((n : Int) - 1)) = decide (os.drop (i + 1) ≠ []) := by
          rw [wrap_i64 (by omega) (by omega)]
          refine decide_eq_decide.2 ?_
          rw [ne_eq, List.drop_eq_nil_iff]
          omega
        repeat' first
          | refine Sep.LdI s (i := 0) rfl rfl rfl ?_
          | refine Sep.LdS s (i := 0) rfl rfl rfl ?_
          | refine Sep.LdB s (i := 0) rfl rfl rfl ?_
          | refine Sep.LdP s (i := 0) rfl rfl rfl ?_
          | refine And.intro (Sep.cell s (i := 0) rfl rfl rfl) ?_
          | (refine Sep.St s (i := 0) rfl rfl rfl fun w s => ?_; simp only [List.set_cons_zero, List.set_cons_succ] at s)
          | refine Sep.Bx s fun b w s => ?_
          | (refine Sep.Al s fun b w s => ?_; simp only [zc30, zc47] at s)
          | (replace s := Sep.drew s; first
            | refine Sep.LdI s (i := 0) rfl rfl rfl ?_
            | refine Sep.LdS s (i := 0) rfl rfl rfl ?_
            | refine Sep.LdB s (i := 0) rfl rfl rfl ?_
            | refine Sep.LdP s (i := 0) rfl rfl rfl ?_
            | refine And.intro (Sep.cell s (i := 0) rfl rfl rfl) ?_
            | (refine Sep.St s (i := 0) rfl rfl rfl fun w s => ?_; simp only [List.set_cons_zero, List.set_cons_succ] at s)
            | refine Sep.Bx s fun b w s => ?_
            | (refine Sep.Al s fun b w s => ?_; simp only [zc30, zc47] at s))
        by_cases hk : o.k = 0
        · rw [show (o.k == 0) = true by rw [beq_iff_eq]; exact hk, cond_true]
          repeat' first
            | refine Sep.LdI s (i := 0) rfl rfl rfl ?_
            | refine Sep.LdS s (i := 0) rfl rfl rfl ?_
            | refine Sep.LdB s (i := 0) rfl rfl rfl ?_
            | refine Sep.LdP s (i := 0) rfl rfl rfl ?_
            | refine And.intro (Sep.cell s (i := 0) rfl rfl rfl) ?_
            | (refine Sep.St s (i := 0) rfl rfl rfl fun w s => ?_; simp only [List.set_cons_zero, List.set_cons_succ] at s)
            | refine Sep.Bx s fun b w s => ?_
            | (refine Sep.Al s fun b w s => ?_; simp only [zc30, zc47] at s)
            | (replace s := Sep.drew s; first
              | refine Sep.LdI s (i := 0) rfl rfl rfl ?_
              | refine Sep.LdS s (i := 0) rfl rfl rfl ?_
              | refine Sep.LdB s (i := 0) rfl rfl rfl ?_
              | refine Sep.LdP s (i := 0) rfl rfl rfl ?_
              | refine And.intro (Sep.cell s (i := 0) rfl rfl rfl) ?_
              | (refine Sep.St s (i := 0) rfl rfl rfl fun w s => ?_; simp only [List.set_cons_zero, List.set_cons_succ] at s)
              | refine Sep.Bx s fun b w s => ?_
              | (refine Sep.Al s fun b w s => ?_; simp only [zc30, zc47] at s))
          by_cases hA : o.A = -1
          · rw [show (o.A == -1) = true by rw [beq_iff_eq]; exact hA, cond_true, last]
            by_cases hz : os.drop (i + 1) ≠ []
            · rw [decide_eq_true hz, cond_true]
              exact hno (hnone (.inr ⟨⟨hk, hA⟩, hz⟩)) _ (Sep.call s0 (sep_fr s)) (sep_fr s)
            · rw [decide_eq_false hz, cond_false]
              exact next (fun h => hz h.2) _ _ _ s
          · rw [show (o.A == -1) = false by rw [beq_eq_false_iff_ne]; exact hA, cond_false]
            exact next (fun h => hA h.1.2) _ _ _ s
        · rw [show (o.k == 0) = false by rw [beq_eq_false_iff_ne]; exact hk, cond_false]
          exact next (fun h => hk h.1.1) _ _ _ s
  have s := Sep.row_nil (Sep.nil (F := No) (w := w0)) 5 1
  refine ⟨n + 1, loop n 0 none 0 0 [] w0 _ (by omega) (by omega) rfl ?_ s⟩
  rw [List.drop_zero]
  cases encP os <;> rfl
theorem encP_of : ∀ {os : List OpP}, (∀ o ∈ os, mayP o = true) → (∀ (i : Nat) o, os[i]? = some o → i + 1 < os.length → ¬ isCut o) → encP os = some (os.flatMap wrP)
  | [], _, _ => rfl
  | o :: os, h1, h2 => by
    have ih := encP_of (os := os) (fun o ho => h1 o (by simp [ho])) fun i o' hi hl => h2 (i + 1) o' (by simpa using hi) (by simp; omega)
    rw [encP, if_neg, ih]
    · rfl
    · rintro (h | ⟨h, hne⟩)
      · rw [h1 o (by simp)] at h; cases h
      · exact h2 0 o rfl (by have := List.length_pos_iff.2 hne; simp; omega) h
theorem OpScripts_b5 {la : Option Addr} {ln lc : Nat} {Q : Bool → World → Prop} (hA : Sl W a n c 1 by8 bs) (hr : Rng bs) (hn : n ≤ 600) (hO : Ops w0 la ln lc (dec bs)) (f0 : Fr No W w0) (hQ : ∀ w', Sep No W w' [] → Q true w') :
    ∀ (m i : Nat) (w : World), i + m = ln → Sep No w0 w [] → herdsmanlaw26_OpScripts.b5 Q (m + 1) a n c la ln lc i w := by
  obtain ⟨d1, d2, d3, d4⟩ := dec_all bs.length bs (Nat.le_refl _) hr
  have hl := hO.len
  have hbl := hA.len
  intro m
  induction m with
  | zero =>
    intro i w hi s
    show herdsmanlaw26_OpScripts.s5 Q (herdsmanlaw26_OpScripts.b5 Q 0) _ _ _ _ _ _ _ _
    unfold herdsmanlaw26_OpScripts.s5
    rw [decide_eq_false (by omega), cond_false]
    have he := encP_of (fun o ho => (d1 o ho).1) d2
    rw [d3] at he
    refine op_Encode.spec s (hO.fr (sep_fr s)) (by omega) (fun o ho => by have := (d1 o ho).2.2; omega) (fun e => by rw [he] at e; cases e) fun zs e ra rn rc w s _ => ?_
    rw [he] at e
    cases e
    refine told.spec s fun w s _ => ?_
    rw [cond_true, show ((0 : Int) == 0) = true from rfl, cond_true]
    have f := f0.then (sep_fr s)
    refine ref_Bytes.spec (Sep.sl s (i := 0) rfl by8_len (by decide)) (hA.fr f) hr hr ?_
    rw [decide_eq_true rfl]
    exact hQ _ (Sep.call Sep.nil f)
  | succ m ih =>
    intro i w hi s
    show herdsmanlaw26_OpScripts.s5 Q (herdsmanlaw26_OpScripts.b5 Q (m + 1)) _ _ _ _ _ _ _ _
    unfold herdsmanlaw26_OpScripts.s5
    rw [decide_eq_true (by omega), cond_true]
    refine hO.Elf (sep_fr s) rfl (by omega) fun p o va vn vc ho hv hro hc => ?_
    refine LdOp hc ?_
    simp only
    have hmem := List.mem_of_getElem? ho
    have hvl := hv.len
    refine op_May.spec s (hv.fr (sep_fr s)) hro (by have := (d1 o hmem).2.2; omega) fun w s _ => ?_
    rw [(d1 o hmem).1, Bool.not_true, cond_false]
    have next := ih (i + 1) w (by omega) s
    rw [wrap_i64 (n := (i : Int) + 1) (by omega) (by omega), wrap_i64 (n := (ln : Int) - 1) (by omega) (by omega)]
    refine hO.Elf (sep_fr s) rfl (by omega) fun p o' va vn vc ho' hv hro hc => ?_
    rw [ho] at ho'
    cases ho'
    have := hc 0 _ rfl
    rw [add_zero] at this
    refine LdI_cell this ?_
    by_cases hk : o.k = 0
    · rw [show (o.k == 0) = true by rw [beq_iff_eq]; exact hk, cond_true]
      refine hO.Elf (sep_fr s) rfl (by omega) fun p o' va vn vc ho' hv hro hc => ?_
      rw [ho] at ho'
      cases ho'
      refine LdI_cell (hc 1 _ rfl) ?_
      by_cases hA1 : o.A = -1
      · rw [show (o.A == -1) = true by rw [beq_iff_eq]; exact hA1, cond_true]
        have : ¬ (i : Int) < (ln : Int) - 1 := fun h => d2 i o ho (by omega) ⟨hk, hA1⟩
        rw [decide_eq_false this, cond_false]
        exact next
      · rw [show (o.A == -1) = false by rw [beq_eq_false_iff_ne]; exact hA1, cond_false]
        exact next
    · rw [show (o.k == 0) = false by rw [beq_eq_false_iff_ne]; exact hk, cond_false]
      exact next
theorem herdsmanlaw26_OpScripts.spec {Q : Bool → World → Prop} (hA : Sl W a n c 1 by8 bs) (hr : Rng bs) (hQ : ∀ w', Sep No W w' [] → Q true w') : herdsmanlaw26_OpScripts.call a n c W Q := by
  refine herdsmanlaw26_OpScripts.body _ _ _ _ _ ?_
  unfold herdsmanlaw26_OpScripts.sh
  have s := Sep.nil (F := No) (w := W)
  by_cases hn : (n : Int) > 600
  · rw [decide_eq_true hn, cond_true]
    exact told.spec s fun w s _ => hQ w s
  · rw [decide_eq_false hn, cond_false]
    refine op_Decode.spec s hA hr (by omega) fun oa on oc w s f hO => ?_
    have hl := hO.len
    exact ⟨on + 1, OpScripts_b5 hA hr (by omega) hO f hQ on 0 w (by omega) Sep.nil⟩
end
theorem OpScripts_law : LawOk P 5 [.sl 1 (.int .u8)] := by
  intro W args h
  obtain ⟨v0, r, rfl, h0, h⟩ := RdAll.cons h
  obtain rfl := RdAll.nil h
  obtain ⟨a, n, c, cs, rfl, k1, k2, k3, k4, k5⟩ := rdV_ints (k := .u8) (W := W) h0
  exact herdsmanlaw26_OpScripts.spec (Q := fun r W' => r = true ∧ Go.RowKit.Below W.heap.size W W') ⟨k4, k1, k3⟩ (fun x hx => wf_u8 (k5 x hx)) fun w' s => ⟨rfl, sep_below s⟩
end Go.Proofs.Ytjndgflalbcngaa.S
