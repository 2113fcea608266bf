/- Layer 26: the document's Bytes, Encode. -/
import Derived.Test.YtjndgflalbcngaaOG
set_option linter.unusedVariables false
set_option linter.unusedSimpArgs false
namespace Go.Proofs.Ytjndgflalbcngaa.S
open Go.Sx
attribute [local irreducible] LdI LdB LdStr LdP LdS LdM LdV St Bx Al App Cpy MkS MkM EqK RunK RunU CallK SlK blkA rowA joinA
theorem may_m {k A B : Int} {m : List Int} (h : mayP ⟨k, A, B, m⟩ = true) (h1 : k ≠ 1) (h0 : ¬ (k = 0 ∧ A = -1)) : m = [] := by
  by_cases hm : m = []
  · exact hm
  · rw [may_map hm h1 h0] at h; cases h
theorem wr_k {k A B : Int} (h0 : k ≠ 0) (h1 : k ≠ 1) : wrP ⟨k, A, B, []⟩ = (k % 256) :: (putI A (shA k) ++ putI B (shB k)) := by
  unfold wrP
  simp only
  rw [if_neg h0, if_neg (by unfold shL; simpa using h1), List.append_nil]
  rfl
theorem wr_1 {A B : Int} {m : List Int} : wrP ⟨1, A, B, m⟩ = 1 :: (putI m.length 4 ++ m) := by
  unfold wrP
  simp only
  rw [if_neg (by decide), if_pos (by decide)]
  simp [shA, shB, putI]
section
variable {F : Nat → Prop} {W w w0 : World} {L : List As} {a : Option Addr} {n c : Nat} {o : OpP}
theorem byte1 {b : Nat} {x : Int} (s : Sep F W w (blkA b 5 [.int .u8 x] :: L)) : Sep F W w (rowA (some ⟨b, 0, none⟩) 1 1 5 1 (flat by8 [x]) :: L) :=
  Sep.blk_row (n := 1) (size := 1) s (i := 0) rfl rfl (by decide) (fun u hu => by have hu : u ∈ [Value.int .u8 x] := hu; rw [List.mem_singleton] at hu; rw [hu]; rfl)
theorem ref_OpBytes.spec {Q : Option Addr → Nat → Nat → World → Prop} (s0 : Sep F W w0 L) (hA : Sl w0 a n c 1 by8 o.m) (hn2 : n ≤ 1000000000) (hmay : mayP o = true) (h : ∀ ra rn rc w', Sep F W w' (rowA ra rn rc 5 1 (flat by8 (wrP o)) :: L) → Fr No w0 w' → Q ra rn rc w') :
    herdsmanref26_Bytes.call o.k o.A o.B a n c w0 Q := by
  refine herdsmanref26_Bytes.body _ _ _ _ _ _ _ _ ?_
  unfold herdsmanref26_Bytes.sh
  obtain ⟨k, A, B, m⟩ := o
  simp only at hA h hmay ⊢
  have hl := hA.len
  have fin : ∀ (zs : List Int) ra rn rc w' L', wrP ⟨k, A, B, m⟩ = zs → Sep No w0 w' (rowA ra rn rc 5 1 (flat by8 zs) :: L') → Q ra rn rc w' := fun zs ra rn rc w' L' e s => by
    rw [e] at h
    exact h _ _ _ _ (Sep.gain s0 s (i := 0) rfl) (sep_fr s)
  have f : ∀ {x y : Int}, x ≠ y → (x == y) = false := fun h => by rw [beq_eq_false_iff_ne]; exact h
  have s := Sep.nil (F := No) (w := w0)
  refine Sep.Bx s fun ob w s => ?_
  refine Sep.LdI s (i := 0) rfl rfl rfl ?_
  refine Sep.Bx s fun pb w s => ?_
  rw [wrap_u8'] at s
  have s := byte1 s
  refine Sep.LdI s (i := 1) rfl rfl rfl ?_
  have two : k = 3 ∨ k = 4 ∨ k = 6 → herdsmanref26_Bytes.b14 Q ⟨ob, 0, none⟩ (some ⟨pb, 0, none⟩) 1 1 w := by
    intro hk
    have hm := may_m hmay (by omega) (by omega)
    subst hm
    have e : wrP ⟨k, A, B, []⟩ = ([k % 256] ++ putI A 4) ++ putI B 4 := by
      rw [wr_k (by omega) (by omega)]
      rcases hk with rfl | rfl | rfl <;> rfl
    unfold herdsmanref26_Bytes.b14
    have s := Sep.drew s
    refine Sep.LdI s (i := 1) rfl rfl rfl ?_
    refine Sep.LdI s (i := 1) rfl rfl rfl ?_
    refine four.spec s fun fb w s _ => ?_
    refine ⟨Sep.cell s (i := 2) rfl rfl rfl, ?_⟩
    have s := Sep.perm s (List.Perm.swap ..)
    refine appSl s (Sep.sl s (i := 1) rfl by8_len (by decide)) (by decide) fun ra rc w s => ?_
    refine ⟨Sep.cell s (i := 2) rfl rfl rfl, ?_⟩
    refine four.spec s fun gb w s _ => ?_
    have s := Sep.perm s (List.Perm.swap ..)
    refine appSl s (Sep.sl s (i := 1) rfl by8_len (by decide)) (by decide) fun ra rc w s => ?_
    exact fin _ _ _ _ _ _ e s
  by_cases hk : k = 0
  · subst hk
    rw [show ((0 : Int) == 0) = true from rfl, cond_true]
    refine Sep.LdI s (i := 1) rfl rfl rfl ?_
    by_cases hA1 : A = -1
    · subst hA1
      rw [show ((-1 : Int) == -1) = true from rfl, cond_true]
      refine Sep.Bx s fun zb w s => ?_
      refine Sep.LdS s (i := 2) rfl rfl rfl ?_
      refine clone0 s (hA.fr (sep_fr s)) (by omega) fun ra rc w s => ?_
      exact fin m _ _ _ _ _ (by unfold wrP; simp) s
    · rw [f hA1, cond_false]
      refine Sep.LdI s (i := 1) rfl rfl rfl ?_
      refine Sep.Bx s fun zb w s => ?_
      rw [wrap_u8'] at s
      have s := byte1 s
      have hm := may_m hmay (by omega) (by omega)
      subst hm
      have hA0 : 0 ≤ A := by
        rw [may_0 hA1] at hmay
        simp only [Bool.and_eq_true, decide_eq_true_eq] at hmay
        exact hmay.2.1.1
      exact fin [A % 256] _ _ _ _ _ (by unfold wrP; simp only; rw [if_pos trivial, if_pos hA0]; rfl) s
  · rw [f hk, cond_false]
    by_cases h1 : k = 1
    · subst h1
      rw [show ((1 : Int) == 1) = true from rfl, cond_true]
      have s := Sep.drew s
      refine Sep.LdS s (i := 1) rfl rfl rfl ?_
      refine Sep.LdS s (i := 1) rfl rfl rfl ?_
      refine four.spec s fun fb w s _ => ?_
      refine ⟨Sep.cell s (i := 2) rfl rfl rfl, ?_⟩
      have s := Sep.perm s (List.Perm.swap ..)
      refine appSl s (Sep.sl s (i := 1) rfl by8_len (by decide)) (by decide) fun ra rc w s => ?_
      refine ⟨Sep.cell s (i := 2) rfl rfl rfl, ?_⟩
      refine appSl s (hA.fr (sep_fr s)) (by omega) fun ra rc w s => ?_
      refine fin _ _ _ _ _ _ ?_ s
      rw [wr_1, hl]
      rfl
    · rw [f h1, cond_false]
      have hm := may_m hmay h1 (by omega)
      subst hm
      by_cases h2 : k = 2
      · subst h2
        rw [show ((2 : Int) == 2) = true from rfl, cond_true]
        have e : wrP ⟨2, A, B, []⟩ = ([2 % 256] ++ putI A 4) ++ [B % 256] := by
          rw [wr_k (by decide) (by decide)]; rfl
        have s := Sep.drew s
        refine Sep.LdI s (i := 1) rfl rfl rfl ?_
        refine Sep.LdI s (i := 1) rfl rfl rfl ?_
        rw [wrap_u8']
        refine ⟨?_, ?_⟩
        · refine four.spec s fun fb w s _ => ?_
          refine ⟨Sep.cell s (i := 2) rfl rfl rfl, ?_⟩
          refine ⟨?_, ?_⟩
          · have s := Sep.perm s (List.Perm.swap ..)
            refine appSl s (Sep.sl s (i := 1) rfl by8_len (by decide)) (by decide) fun ra rc w s => ?_
            refine ⟨Sep.cell s (i := 2) rfl rfl rfl, ?_⟩
            refine Sep.Bx s fun zb w s => ?_
            have s := byte1 s
            refine ⟨Sep.cell s (i := 3) rfl rfl rfl, ?_⟩
            have s := Sep.perm s (List.Perm.swap ..)
            refine appSl s (Sep.sl s (i := 1) rfl by8_len (by decide)) (by decide) fun ra rc w s => ?_
            exact fin _ _ _ _ _ _ e s
          · refine Sep.Bx s fun zb w s => ?_
            have s := byte1 s
            refine ⟨Sep.cell s (i := 3) rfl rfl rfl, ?_⟩
            have s := Sep.pick (L' := [_, _, _, _]) [2, 1, 0, 3] s rfl (by decide)
            refine appSl s (Sep.sl s (i := 1) rfl by8_len (by decide)) (by decide) fun ra rc w s => ?_
            refine ⟨Sep.cell s (i := 3) rfl rfl rfl, ?_⟩
            refine appSl s (Sep.sl s (i := 2) rfl by8_len (by decide)) (by decide) fun ra rc w s => ?_
            exact fin _ _ _ _ _ _ e s
        · refine Sep.Bx s fun zb w s => ?_
          have s := byte1 s
          refine ⟨Sep.cell s (i := 2) rfl rfl rfl, ?_⟩
          refine four.spec s fun fb w s _ => ?_
          refine ⟨Sep.cell s (i := 3) rfl rfl rfl, ?_⟩
          have s := Sep.pick (L' := [_, _, _, _]) [2, 0, 1, 3] s rfl (by decide)
          refine appSl s (Sep.sl s (i := 1) rfl by8_len (by decide)) (by decide) fun ra rc w s => ?_
          refine ⟨Sep.cell s (i := 3) rfl rfl rfl, ?_⟩
          refine appSl s (Sep.sl s (i := 2) rfl by8_len (by decide)) (by decide) fun ra rc w s => ?_
          exact fin _ _ _ _ _ _ e s
      · rw [f h2, cond_false]
        by_cases h3 : k = 3
        · rw [show (k == 3) = true by rw [beq_iff_eq]; exact h3, cond_true]
          exact two (.inl h3)
        · rw [f h3, cond_false]
          by_cases h4 : k = 4
          · rw [show (k == 4) = true by rw [beq_iff_eq]; exact h4, cond_true]
            exact two (.inr (.inl h4))
          · rw [f h4, cond_false]
            by_cases h6 : k = 6
            · rw [show (k == 6) = true by rw [beq_iff_eq]; exact h6, cond_true]
              exact two (.inr (.inr h6))
            · rw [f h6, cond_false]
              by_cases h5 : k = 5
              · subst h5
                rw [show ((5 : Int) == 5) = true from rfl, cond_true]
                refine Sep.LdI s (i := 1) rfl rfl rfl ?_
                refine four.spec s fun fb w s _ => ?_
                have s := Sep.perm s (List.Perm.swap ..)
                refine appSl s (Sep.sl s (i := 1) rfl by8_len (by decide)) (by decide) fun ra rc w s => ?_
                refine fin _ _ _ _ _ _ ?_ s
                rw [wr_k (by decide) (by decide)]
                show (5 % 256 : Int) :: (putI A 4 ++ []) = _
                rw [List.append_nil]
                rfl
              · rw [f h5, cond_false]
                refine fin _ _ _ _ _ _ ?_ s
                rw [wr_k hk h1]
                have e1 : shA k = 0 := by unfold shA; rw [if_neg (by omega)]
                have e2 : shB k = 0 := by unfold shB; rw [if_neg h2, if_neg (by omega)]
                rw [e1, e2]
                rfl
attribute [local irreducible] herdsmanref26_Encode.b7 in
theorem ref_Encode.spec {os : List OpP} {Q : Option Addr → Nat → Nat → Bool → World → Prop} (s0 : Sep F W w0 L) (hO : Ops w0 a n c os) (hn : n ≤ 1000) (hm : ∀ o ∈ os, o.m.length ≤ 100000000)
    (hno : encP os = none → ∀ w', Sep F W w' L → Fr No w0 w' → Q none 0 0 false w')
    (hyes : ∀ bs, encP os = some bs → ∀ ra rn rc w', Sep F W w' (rowA ra rn rc 5 1 (flat by8 bs) :: L) → Fr No w0 w' → Q ra rn rc true w') : herdsmanref26_Encode.call a n c w0 Q := by
  refine herdsmanref26_Encode.body _ _ _ _ _ ?_
  unfold herdsmanref26_Encode.sh
  have hl := hO.len
  have loop : ∀ (m i : Nat) (ba : Option Addr) (bn bc : Nat) (bs : List Int) (w : World) (L' : List As), i + m = n → bn ≤ i * 100000020 → bn = bs.length → encP os = (encP (os.drop i)).map (bs ++ ·) →
      Sep No w0 w (rowA ba bn bc 5 1 (flat by8 bs) :: L') → herdsmanref26_Encode.b3 Q (m + 1) a n c ba bn bc i w := by
    intro m
    induction m with
    | zero =>
      intro i ba bn bc bs w L' hi hbn hbl he s
      show herdsmanref26_Encode.s3 Q (herdsmanref26_Encode.b3 Q 0) _ _ _ _ _ _ _ _
      unfold herdsmanref26_Encode.s3
      rw [decide_eq_false (by omega), cond_false]
      rw [List.drop_eq_nil_of_le (by omega)] at he
      simp only [encP, Option.map_some, List.append_nil] at he
      exact hyes _ he _ _ _ _ (Sep.gain s0 s (i := 0) rfl) (sep_fr s)
    | succ m ih =>
      intro i ba bn bc bs w L' hi hbn hbl he s
      show herdsmanref26_Encode.s3 Q (herdsmanref26_Encode.b3 Q (m + 1)) _ _ _ _ _ _ _ _
      unfold herdsmanref26_Encode.s3
      rw [decide_eq_true (by omega), cond_true]
      refine hO.Elf (sep_fr s) rfl (by omega) fun p o va vn vc ho hv hr hc => ?_
      refine LdOp hc ?_
      simp only
      obtain ⟨hil, ho'⟩ := List.getElem?_eq_some_iff.1 ho
      have hd : os.drop i = o :: os.drop (i + 1) := by rw [List.drop_eq_getElem_cons hil, ho']
      have hmo := hm o (List.mem_of_getElem? ho)
      have hvl := hv.len
      refine ref_May.spec s (hv.fr (sep_fr s)) hr (by omega) fun w s _ => ?_
      have hnone : (mayP o = false ∨ (isCut o ∧ os.drop (i + 1) ≠ [])) → encP os = none := fun h => by
        rw [he, hd, encP, if_pos h]; rfl
      cases hmay : mayP o with
      | false =>
        rw [Bool.not_false, cond_true]
        exact hno (hnone (.inl hmay)) _ (Sep.call s0 (sep_fr s)) (sep_fr s)
      | true =>
        rw [Bool.not_true, cond_false]
        have next : ¬ (isCut o ∧ os.drop (i + 1) ≠ []) → herdsmanref26_Encode.b7 (herdsmanref26_Encode.b3 Q (m + 1)) Q a n c ba bn bc i w := by
          intro hcut
          unfold herdsmanref26_Encode.b7
          refine hO.Elf (sep_fr s) rfl (by omega) fun p o' va vn vc ho' hv hr hc => ?_
          rw [ho] at ho'
          cases ho'
          have hvl := hv.len
          refine LdOp hc ?_
          simp only
          refine ref_OpBytes.spec s (hv.fr (sep_fr s)) (by omega) hmay fun ra rn rc w s _ => ?_
          have hrs := Sep.sl s (i := 0) rfl by8_len (by decide)
          have hrn := hrs.len
          have hw := wrP_len o
          have s := Sep.perm s (List.Perm.swap ..)
          refine appSl s hrs (by omega) fun ra rc w s => ?_
          rw [wrap_i64 (n := (i : Int) + 1) (by omega) (by omega)]
          refine ih (i + 1) ra _ rc _ w _ (by omega) (by omega) (by rw [List.length_append]; omega) ?_ s
          rw [he, hd, encP, if_neg (by rw [hmay]; simpa using hcut), Option.map_map]
          congr 1
          funext z
          simp
        have last : decide ((i : Int) < IntKind.wrap .i64 ((n : Int) - 1)) = decide (os.drop (i + 1) ≠ []) := by
          rw [wrap_i64 (by omega) (by omega)]
          refine decide_eq_decide.2 ?_
          rw [ne_eq, List.drop_eq_nil_iff]
          omega
        refine hO.Elf (sep_fr s) rfl (by omega) fun p o' va vn vc ho' hv hr hc => ?_
        rw [ho] at ho'
        cases ho'
        have := hc 0 _ rfl
        rw [add_zero] at this
        refine LdI_cell this ?_
        by_cases hk : o.k = 0
        · rw [show (o.k == 0) = true by rw [beq_iff_eq]; exact hk, cond_true]
          refine hO.Elf (sep_fr s) rfl (by omega) fun p o' va vn vc ho' hv hr hc => ?_
          rw [ho] at ho'
          cases ho'
          refine LdI_cell (hc 1 _ rfl) ?_
          by_cases hA : o.A = -1
          · rw [show (o.A == -1) = true by rw [beq_iff_eq]; exact hA, cond_true, last]
            by_cases hz : os.drop (i + 1) ≠ []
            · rw [decide_eq_true hz, cond_true]
              exact hno (hnone (.inr ⟨⟨hk, hA⟩, hz⟩)) _ (Sep.call s0 (sep_fr s)) (sep_fr s)
            · rw [decide_eq_false hz, cond_false]
              exact next (fun h => hz h.2)
          · rw [show (o.A == -1) = false by rw [beq_eq_false_iff_ne]; exact hA, cond_false]
            exact next (fun h => hA h.1.2)
        · rw [show (o.k == 0) = false by rw [beq_eq_false_iff_ne]; exact hk, cond_false]
          exact next (fun h => hk h.1.1)
  have s := Sep.row_nil (Sep.nil (F := No) (w := w0)) 5 1
  refine ⟨n + 1, loop n 0 none 0 0 [] w0 _ (by omega) (by omega) rfl ?_ s⟩
  rw [List.drop_zero]
  cases encP os <;> rfl
end
end Go.Proofs.Ytjndgflalbcngaa.S
