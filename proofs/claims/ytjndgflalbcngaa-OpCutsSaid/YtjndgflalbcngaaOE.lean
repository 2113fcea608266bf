/- Layer 26: the document's Decode; told. -/
import Derived.Test.YtjndgflalbcngaaOD
set_option linter.unusedVariables false
set_option linter.unusedSimpArgs false
namespace Go.Proofs.Ytjndgflalbcngaa.S
open Go.Sx
attribute [local irreducible] LdI LdB LdStr LdP LdS LdM LdV St Bx Al App Cpy MkS MkM EqK RunK RunU CallK SlK blkA rowA joinA
section
variable {F : Nat → Prop} {W w w0 : World} {L : List As} {a oa : Option Addr} {n c on oc : Nat} {bs : List Int} {es : List (OpR × OpP)}
theorem RD_b23 {P3 : Option Addr → Nat → Nat → Option Addr → Nat → Nat → Int → World → Prop} {Q : Option Addr → Nat → Nat → World → Prop} {ob : Nat} {at0 r : Nat} {v : OpR} {o : OpP} 
    (s : Sep No w0 w (blkA ob 30 (opc v) :: rowA v.a v.n v.c 5 1 (flat by8 o.m) :: rowA oa on oc 30 4 (flat opc (es.map (·.1))) :: mapsA es :: L)) (ha : Agree (v, o)) (hon : on ≤ 1000000000) (hat : at0 + r ≤ 1000000000)
    (k : ∀ a' c' w', Sep No w0 w' (rowA a' (on + 1) c' 30 4 (flat opc ((es ++ [(v, o)]).map (·.1))) :: mapsA (es ++ [(v, o)]) :: blkA ob 30 (opc v) :: L) → P3 a n c a' (on + 1) c' ((at0 + r : Nat) : Int) w') :
    herdsmanref26_Decode.b23 P3 Q a n c oa on oc at0 r ⟨ob, 0, none⟩ w := by
  unfold herdsmanref26_Decode.b23
  unfold opc at s
  repeat' first
    | refine Sep.LdI s (i := 0) rfl rfl rfl ?_
    | refine Sep.LdS s (i := 0) rfl rfl rfl ?_
    | refine Sep.LdB s (i := 0) rfl rfl rfl ?_
    | refine Sep.LdP s (i := 0) rfl rfl rfl ?_
    | refine And.intro (Sep.cell s (i := 0) rfl rfl rfl) ?_
    | (replace s := Sep.drew s; first
      | refine Sep.LdI s (i := 0) rfl rfl rfl ?_
      | refine Sep.LdS s (i := 0) rfl rfl rfl ?_
      | refine Sep.LdB s (i := 0) rfl rfl rfl ?_
      | refine Sep.LdP s (i := 0) rfl rfl rfl ?_
      | refine And.intro (Sep.cell s (i := 0) rfl rfl rfl) ?_)
  rw [wrap_i64 (n := (at0 : Int) + (r : Int)) (by omega) (by omega)]
  have s := Sep.perm s (List.Perm.trans (List.Perm.swap ..) (List.Perm.trans (List.Perm.cons _ (List.Perm.trans (List.Perm.swap ..) (List.Perm.cons _ (List.Perm.swap ..)))) (List.Perm.trans (List.Perm.swap ..) (List.Perm.cons _ (List.Perm.swap ..)))))
  refine addOp (v := v) (o := o) s ha hon fun a' c' w s => k _ _ _ s
theorem readP_num {x : Int} {r : List Int} (hk : shOk x = true) (hL : ¬ shL x = true) (hu : (readP (x :: r)).2 ≠ 0) : readP (x :: r) = (⟨x, numI (r.take (shA x)), numI ((r.drop (shA x)).take (shB x)), []⟩, 1 + shA x + shB x) ∧ shA x + shB x ≤ r.length := by
  rw [readP_cons, if_pos hk, if_neg hL] at hu ⊢
  by_cases h : r.length < shA x + shB x
  · rw [if_pos h] at hu; exact (hu rfl).elim
  · rw [if_neg h]; exact ⟨rfl, by omega⟩
theorem readP_load {r : List Int} (hr : Rng r) (hu : (readP (1 :: r)).2 ≠ 0) : ∃ k : Nat, readP (1 :: r) = (⟨1, 0, 0, (r.drop 4).take k⟩, 5 + k) ∧ 4 + k ≤ r.length := by
  rw [readP_cons, if_pos (by decide), if_pos (by decide)] at hu ⊢
  by_cases h : r.length < 4
  · rw [if_pos h] at hu; exact (hu rfl).elim
  · rw [if_neg h] at hu ⊢
    by_cases h2 : (r.length : Int) - 4 < numI (r.take 4)
    · rw [if_pos h2] at hu; exact (hu rfl).elim
    · rw [if_neg h2]
      have := numI_range (hr.take 4)
      exact ⟨_, rfl, by omega⟩
attribute [local irreducible] herdsmanref26_Decode.b23 herdsmanref26_Decode.b20 in
theorem RD_whole {R3 : Option Addr → Nat → Nat → Option Addr → Nat → Nat → Int → World → Prop} {Q : Option Addr → Nat → Nat → World → Prop} {ba xa : Option Addr} {bn bc xn xc at0 ob : Nat} {x : Int} {r : List Int}
    (hX : Sl w0 xa xn xc 1 by8 (x :: r)) (hr : Rng (x :: r)) (hk : 1 ≤ x ∧ x ≤ 8) (hu : (readP (x :: r)).2 ≠ 0) (hat : at0 + xn ≤ 1000000000) (hon : on ≤ 1000000000)
    (s : Sep No w0 w (blkA ob 30 [.int .i64 x, .int .i64 0, .int .i64 0, .slice none 0 0] :: rowA oa on oc 30 4 (flat opc (es.map (·.1))) :: mapsA es :: L))
    (k : ∀ v a' c' w' L', Sep No w0 w' (rowA a' (on + 1) c' 30 4 (flat opc ((es ++ [(v, (readP (x :: r)).1)]).map (·.1))) :: mapsA (es ++ [(v, (readP (x :: r)).1)]) :: L') → R3 ba bn bc a' (on + 1) c' ((at0 + (readP (x :: r)).2 : Nat) : Int) w') :
    LdI .i64 ⟨ob, 0, none⟩ w fun x44 =>
      cond (x44 == 1)
      (Bx [] 5 w fun p47_s w0_13 =>
      SlK xa xn xc 1 (some 5) (some ((readP (x :: r)).2 : Int)) fun s50_a s50_n s50_c =>
      App P #[22, 22] 22 (.slice (some p47_s) 0 0) (.slice s50_a s50_n s50_c) w0_13 fun r51_a r51_n r51_c w0_14 =>
      St ((⟨ob, 0, none⟩ : Addr).add 3) (.slice r51_a r51_n r51_c) w0_14 fun w0_15 =>
      herdsmanref26_Decode.b23 R3 Q ba bn bc oa on oc at0 (readP (x :: r)).2 ⟨ob, 0, none⟩ w0_15)
      (cond (x44 == 2)
      (SlK xa xn xc 1 (some 1) none fun s56_a s56_n s56_c =>
      InB 5 xn <|
      wA xa fun p_2 =>
      LdI .u8 (p_2.add (((5 : Int).toNat) * 1)) w.drew fun x60 =>
      herdsmanref26_number.call s56_a s56_n s56_c w.drew fun r57 w0_16 =>
      w0_16.cell? (p_2.add (((5 : Int).toNat) * 1)) = some (.int .u8 x60) ∧
      St ((⟨ob, 0, none⟩ : Addr).add 1) (.int .i64 r57) w0_16 fun w0_17 =>
      w0_17.cell? (p_2.add (((5 : Int).toNat) * 1)) = some (.int .u8 x60) ∧
      St ((⟨ob, 0, none⟩ : Addr).add 2) (.int .i64 (IntKind.wrap .i64 x60)) w0_17 fun w0_18 =>
      herdsmanref26_Decode.b23 R3 Q ba bn bc oa on oc at0 (readP (x :: r)).2 ⟨ob, 0, none⟩ w0_18)
      (cond (x44 == 3)
      (herdsmanref26_Decode.b20 R3 Q ba bn bc oa on oc at0 xa xn xc (readP (x :: r)).2 ⟨ob, 0, none⟩ w)
      (cond (x44 == 4)
      (herdsmanref26_Decode.b20 R3 Q ba bn bc oa on oc at0 xa xn xc (readP (x :: r)).2 ⟨ob, 0, none⟩ w)
      (cond (x44 == 6)
      (herdsmanref26_Decode.b20 R3 Q ba bn bc oa on oc at0 xa xn xc (readP (x :: r)).2 ⟨ob, 0, none⟩ w)
      (cond (x44 == 5)
      (SlK xa xn xc 1 (some 1) none fun s79_a s79_n s79_c =>
      herdsmanref26_number.call s79_a s79_n s79_c w fun r80 w0_19 =>
      St ((⟨ob, 0, none⟩ : Addr).add 1) (.int .i64 r80) w0_19 fun w0_20 =>
      herdsmanref26_Decode.b23 R3 Q ba bn bc oa on oc at0 (readP (x :: r)).2 ⟨ob, 0, none⟩ w0_20)
      (herdsmanref26_Decode.b23 R3 Q ba bn bc oa on oc at0 (readP (x :: r)).2 ⟨ob, 0, none⟩ w)))))) := by
  obtain ⟨hx, hrr⟩ := hr.cons
  have hl := hX.len
  rw [List.length_cons] at hl
  have hus : (readP (x :: r)).2 ≤ xn := by
    have := (wr_read hr hu).2.2.2.1
    rw [List.length_cons] at this
    omega
  -- what ends each of them
  have fin : ∀ (A B : Int) (w : World) (L' : List As), (readP (x :: r)).1 = ⟨x, A, B, []⟩ → Sep No w0 w (blkA ob 30 [.int .i64 x, .int .i64 A, .int .i64 B, .slice none 0 0] :: rowA oa on oc 30 4 (flat opc (es.map (·.1))) :: mapsA es :: L') →
      herdsmanref26_Decode.b23 R3 Q ba bn bc oa on oc at0 (readP (x :: r)).2 ⟨ob, 0, none⟩ w := by
    intro A B w L' e s
    rw [e] at k
    refine RD_b23 (v := ⟨x, A, B, none, 0, 0⟩) (o := ⟨x, A, B, []⟩) (Sep.perm (Sep.row_nil s 5 1) (List.Perm.swap ..)) ⟨rfl, rfl, rfl, Rng.nil⟩ hon (by omega) fun a' c' w s => k _ _ _ _ _ s
  have two : shA x = 4 → shB x = 4 → shL x = false → herdsmanref26_Decode.b20 R3 Q ba bn bc oa on oc at0 xa xn xc (readP (x :: r)).2 ⟨ob, 0, none⟩ w := by
    intro e1 e2 e3
    obtain ⟨e, hn⟩ := readP_num (decide_eq_true hk) (by rw [e3]; decide) hu
    rw [e1, e2] at hn
    unfold herdsmanref26_Decode.b20
    refine hX.lo (m := 1) rfl (by omega) fun ta tn tc htn hT => ?_
    have hT : Sl w0 ta tn tc 1 by8 r := hT
    refine hX.lo (m := 5) rfl (by omega) fun ua un uc hun hU => ?_
    have hU : Sl w0 ua un uc 1 by8 (r.drop 4) := hU
    have s := Sep.drew s
    refine ref_number.spec (hT.fr (sep_fr s)) hrr (by omega) fun w f => ?_
    have s := Sep.call s f
    refine ref_number.spec (hU.fr (sep_fr s)) (hrr.drop 4) (by omega) fun w f => ?_
    have s := Sep.call s f
    repeat' first
      | refine Sep.LdI s (i := 0) rfl rfl rfl ?_
      | refine Sep.LdS s (i := 0) rfl rfl rfl ?_
      | refine Sep.LdB s (i := 0) rfl rfl rfl ?_
      | refine Sep.LdP s (i := 0) rfl rfl rfl ?_
      | refine And.intro (Sep.cell s (i := 0) rfl rfl rfl) ?_
      | (refine Sep.St s (i := 0) rfl rfl rfl fun w s => ?_; simp only [List.set_cons_zero, List.set_cons_succ] at s)
      | refine Sep.Bx s fun b w s => ?_
      | (refine Sep.Al s fun b w s => ?_; simp only [zc30, zc47] at s)
      | (replace s := Sep.drew s; first
        | refine Sep.LdI s (i := 0) rfl rfl rfl ?_
        | refine Sep.LdS s (i := 0) rfl rfl rfl ?_
        | refine Sep.LdB s (i := 0) rfl rfl rfl ?_
        | refine Sep.LdP s (i := 0) rfl rfl rfl ?_
        | refine And.intro (Sep.cell s (i := 0) rfl rfl rfl) ?_
        | (refine Sep.St s (i := 0) rfl rfl rfl fun w s => ?_; simp only [List.set_cons_zero, List.set_cons_succ] at s)
        | refine Sep.Bx s fun b w s => ?_
        | (refine Sep.Al s fun b w s => ?_; simp only [zc30, zc47] at s))
    exact fin _ _ _ _ (by rw [e, e1, e2]) s
  have hk' : x = 1 ∨ x = 2 ∨ x = 3 ∨ x = 4 ∨ x = 5 ∨ x = 6 ∨ x = 7 ∨ x = 8 := by omega
  rcases hk' with rfl | rfl | rfl | rfl | rfl | rfl | rfl | rfl
  · obtain ⟨q, e, hq⟩ := readP_load hrr hu
    rw [e] at k ⊢
    repeat' first
      | refine Sep.LdI s (i := 0) rfl rfl rfl ?_
      | refine Sep.LdS s (i := 0) rfl rfl rfl ?_
      | refine Sep.LdB s (i := 0) rfl rfl rfl ?_
      | refine Sep.LdP s (i := 0) rfl rfl rfl ?_
      | refine And.intro (Sep.cell s (i := 0) rfl rfl rfl) ?_
      | (refine Sep.St s (i := 0) rfl rfl rfl fun w s => ?_; simp only [List.set_cons_zero, List.set_cons_succ] at s)
      | refine Sep.Bx s fun b w s => ?_
      | (refine Sep.Al s fun b w s => ?_; simp only [zc30, zc47] at s)
      | (replace s := Sep.drew s; first
        | refine Sep.LdI s (i := 0) rfl rfl rfl ?_
        | refine Sep.LdS s (i := 0) rfl rfl rfl ?_
        | refine Sep.LdB s (i := 0) rfl rfl rfl ?_
        | refine Sep.LdP s (i := 0) rfl rfl rfl ?_
        | refine And.intro (Sep.cell s (i := 0) rfl rfl rfl) ?_
        | (refine Sep.St s (i := 0) rfl rfl rfl fun w s => ?_; simp only [List.set_cons_zero, List.set_cons_succ] at s)
        | refine Sep.Bx s fun b w s => ?_
        | (refine Sep.Al s fun b w s => ?_; simp only [zc30, zc47] at s))
    refine hX.mid (p := 5) (q := 5 + q) rfl rfl (by omega) (by omega) fun ta tn tc htn hT => ?_
    rw [show 5 + q - 5 = q by omega] at htn hT
    have hT : Sl w0 ta tn tc 1 by8 ((r.drop 4).take q) := hT
    refine clone0 s (hT.fr (sep_fr s)) (by omega) fun ra rc w s => ?_
    repeat' first
      | refine Sep.LdI s (i := 0) rfl rfl rfl ?_
      | refine Sep.LdS s (i := 0) rfl rfl rfl ?_
      | refine Sep.LdB s (i := 0) rfl rfl rfl ?_
      | refine Sep.LdP s (i := 0) rfl rfl rfl ?_
      | refine And.intro (Sep.cell s (i := 0) rfl rfl rfl) ?_
      | refine Sep.LdI s (i := 1) rfl rfl rfl ?_
      | refine Sep.LdS s (i := 1) rfl rfl rfl ?_
      | refine Sep.LdB s (i := 1) rfl rfl rfl ?_
      | refine Sep.LdP s (i := 1) rfl rfl rfl ?_
      | refine And.intro (Sep.cell s (i := 1) rfl rfl rfl) ?_
      | (refine Sep.St s (i := 0) rfl rfl rfl fun w s => ?_; simp only [List.set_cons_zero, List.set_cons_succ] at s)
      | (refine Sep.St s (i := 1) rfl rfl rfl fun w s => ?_; simp only [List.set_cons_zero, List.set_cons_succ] at s)
      | refine Sep.Bx s fun b w s => ?_
      | (refine Sep.Al s fun b w s => ?_; simp only [zc30, zc47] at s)
      | (replace s := Sep.drew s; first
        | refine Sep.LdI s (i := 0) rfl rfl rfl ?_
        | refine Sep.LdS s (i := 0) rfl rfl rfl ?_
        | refine Sep.LdB s (i := 0) rfl rfl rfl ?_
        | refine Sep.LdP s (i := 0) rfl rfl rfl ?_
        | refine And.intro (Sep.cell s (i := 0) rfl rfl rfl) ?_
        | refine Sep.LdI s (i := 1) rfl rfl rfl ?_
        | refine Sep.LdS s (i := 1) rfl rfl rfl ?_
        | refine Sep.LdB s (i := 1) rfl rfl rfl ?_
        | refine Sep.LdP s (i := 1) rfl rfl rfl ?_
        | refine And.intro (Sep.cell s (i := 1) rfl rfl rfl) ?_
        | (refine Sep.St s (i := 0) rfl rfl rfl fun w s => ?_; simp only [List.set_cons_zero, List.set_cons_succ] at s)
        | (refine Sep.St s (i := 1) rfl rfl rfl fun w s => ?_; simp only [List.set_cons_zero, List.set_cons_succ] at s)
        | refine Sep.Bx s fun b w s => ?_
        | (refine Sep.Al s fun b w s => ?_; simp only [zc30, zc47] at s))
    exact RD_b23 (v := ⟨1, 0, 0, ra, tn, rc⟩) (o := ⟨1, 0, 0, (r.drop 4).take q⟩) (Sep.perm s (List.Perm.swap ..)) ⟨rfl, rfl, rfl, (hrr.drop 4).take q⟩ hon (by omega) fun a' c' w s => k _ _ _ _ _ s
  · obtain ⟨e, hn⟩ := readP_num (x := 2) rfl (by decide) hu
    have hn : 5 ≤ r.length := hn
    repeat' first
      | refine Sep.LdI s (i := 0) rfl rfl rfl ?_
      | refine Sep.LdS s (i := 0) rfl rfl rfl ?_
      | refine Sep.LdB s (i := 0) rfl rfl rfl ?_
      | refine Sep.LdP s (i := 0) rfl rfl rfl ?_
      | refine And.intro (Sep.cell s (i := 0) rfl rfl rfl) ?_
      | (refine Sep.St s (i := 0) rfl rfl rfl fun w s => ?_; simp only [List.set_cons_zero, List.set_cons_succ] at s)
      | refine Sep.Bx s fun b w s => ?_
      | (refine Sep.Al s fun b w s => ?_; simp only [zc30, zc47] at s)
      | (replace s := Sep.drew s; first
        | refine Sep.LdI s (i := 0) rfl rfl rfl ?_
        | refine Sep.LdS s (i := 0) rfl rfl rfl ?_
        | refine Sep.LdB s (i := 0) rfl rfl rfl ?_
        | refine Sep.LdP s (i := 0) rfl rfl rfl ?_
        | refine And.intro (Sep.cell s (i := 0) rfl rfl rfl) ?_
        | (refine Sep.St s (i := 0) rfl rfl rfl fun w s => ?_; simp only [List.set_cons_zero, List.set_cons_succ] at s)
        | refine Sep.Bx s fun b w s => ?_
        | (refine Sep.Al s fun b w s => ?_; simp only [zc30, zc47] at s))
    refine hX.lo (m := 1) rfl (by omega) fun ta tn tc htn hT => ?_
    have hT : Sl w0 ta tn tc 1 by8 r := hT
    have h5 : (2 :: r)[5]? = some (gi r 4) := by rw [List.getElem?_cons_succ]; exact gi_get (by omega)
    obtain ⟨ad, rfl, hv⟩ := hX.row.2 5 _ h5
    have hv : w0.cell? (ad.add ((5 : Int).toNat * 1)) = some (.int .u8 (gi r 4)) := hv 0 _ rfl
    have h4 := hrr _ (gi_mem (l := r) (i := 4) (by omega))
    have s := Sep.drew s
    refine ⟨by decide, by omega, wA_some ?_⟩
    refine LdI_cell (Fr.cell (sep_fr s) hv id) ?_
    refine ref_number.spec (hT.fr (sep_fr s)) hrr (by omega) fun w f => ?_
    have s := Sep.call s f
    refine ⟨Fr.cell (sep_fr s) hv id, ?_⟩
    repeat' first
      | refine Sep.LdI s (i := 0) rfl rfl rfl ?_
      | refine Sep.LdS s (i := 0) rfl rfl rfl ?_
      | refine Sep.LdB s (i := 0) rfl rfl rfl ?_
      | refine Sep.LdP s (i := 0) rfl rfl rfl ?_
      | refine And.intro (Sep.cell s (i := 0) rfl rfl rfl) ?_
      | (refine Sep.St s (i := 0) rfl rfl rfl fun w s => ?_; simp only [List.set_cons_zero, List.set_cons_succ] at s)
      | refine Sep.Bx s fun b w s => ?_
      | (refine Sep.Al s fun b w s => ?_; simp only [zc30, zc47] at s)
      | (replace s := Sep.drew s; first
        | refine Sep.LdI s (i := 0) rfl rfl rfl ?_
        | refine Sep.LdS s (i := 0) rfl rfl rfl ?_
        | refine Sep.LdB s (i := 0) rfl rfl rfl ?_
        | refine Sep.LdP s (i := 0) rfl rfl rfl ?_
        | refine And.intro (Sep.cell s (i := 0) rfl rfl rfl) ?_
        | (refine Sep.St s (i := 0) rfl rfl rfl fun w s => ?_; simp only [List.set_cons_zero, List.set_cons_succ] at s)
        | refine Sep.Bx s fun b w s => ?_
        | (refine Sep.Al s fun b w s => ?_; simp only [zc30, zc47] at s))
    refine ⟨Fr.cell (sep_fr s) hv id, ?_⟩
    repeat' first
      | refine Sep.LdI s (i := 0) rfl rfl rfl ?_
      | refine Sep.LdS s (i := 0) rfl rfl rfl ?_
      | refine Sep.LdB s (i := 0) rfl rfl rfl ?_
      | refine Sep.LdP s (i := 0) rfl rfl rfl ?_
      | refine And.intro (Sep.cell s (i := 0) rfl rfl rfl) ?_
      | (refine Sep.St s (i := 0) rfl rfl rfl fun w s => ?_; simp only [List.set_cons_zero, List.set_cons_succ] at s)
      | refine Sep.Bx s fun b w s => ?_
      | (refine Sep.Al s fun b w s => ?_; simp only [zc30, zc47] at s)
      | (replace s := Sep.drew s; first
        | refine Sep.LdI s (i := 0) rfl rfl rfl ?_
        | refine Sep.LdS s (i := 0) rfl rfl rfl ?_
        | refine Sep.LdB s (i := 0) rfl rfl rfl ?_
        | refine Sep.LdP s (i := 0) rfl rfl rfl ?_
        | refine And.intro (Sep.cell s (i := 0) rfl rfl rfl) ?_
        | (refine Sep.St s (i := 0) rfl rfl rfl fun w s => ?_; simp only [List.set_cons_zero, List.set_cons_succ] at s)
        | refine Sep.Bx s fun b w s => ?_
        | (refine Sep.Al s fun b w s => ?_; simp only [zc30, zc47] at s))
    rw [wrap_i64 (n := gi r 4) (by omega) (by omega)] at s
    refine fin _ _ _ _ ?_ s
    rw [e]
    have : (r.drop 4).take 1 = [gi r 4] := by
      match r, hn with
      | x :: y :: z :: u :: v :: r, _ => rfl
    show (⟨2, numI (r.take 4), numI ((r.drop 4).take 1), []⟩ : OpP) = _
    rw [this]
    simp [numI]
  · repeat' first
      | refine Sep.LdI s (i := 0) rfl rfl rfl ?_
      | refine Sep.LdS s (i := 0) rfl rfl rfl ?_
      | refine Sep.LdB s (i := 0) rfl rfl rfl ?_
      | refine Sep.LdP s (i := 0) rfl rfl rfl ?_
      | refine And.intro (Sep.cell s (i := 0) rfl rfl rfl) ?_
      | (refine Sep.St s (i := 0) rfl rfl rfl fun w s => ?_; simp only [List.set_cons_zero, List.set_cons_succ] at s)
      | refine Sep.Bx s fun b w s => ?_
      | (refine Sep.Al s fun b w s => ?_; simp only [zc30, zc47] at s)
      | (replace s := Sep.drew s; first
        | refine Sep.LdI s (i := 0) rfl rfl rfl ?_
        | refine Sep.LdS s (i := 0) rfl rfl rfl ?_
        | refine Sep.LdB s (i := 0) rfl rfl rfl ?_
        | refine Sep.LdP s (i := 0) rfl rfl rfl ?_
        | refine And.intro (Sep.cell s (i := 0) rfl rfl rfl) ?_
        | (refine Sep.St s (i := 0) rfl rfl rfl fun w s => ?_; simp only [List.set_cons_zero, List.set_cons_succ] at s)
        | refine Sep.Bx s fun b w s => ?_
        | (refine Sep.Al s fun b w s => ?_; simp only [zc30, zc47] at s))
    exact two rfl rfl rfl
  · repeat' first
      | refine Sep.LdI s (i := 0) rfl rfl rfl ?_
      | refine Sep.LdS s (i := 0) rfl rfl rfl ?_
      | refine Sep.LdB s (i := 0) rfl rfl rfl ?_
      | refine Sep.LdP s (i := 0) rfl rfl rfl ?_
      | refine And.intro (Sep.cell s (i := 0) rfl rfl rfl) ?_
      | (refine Sep.St s (i := 0) rfl rfl rfl fun w s => ?_; simp only [List.set_cons_zero, List.set_cons_succ] at s)
      | refine Sep.Bx s fun b w s => ?_
      | (refine Sep.Al s fun b w s => ?_; simp only [zc30, zc47] at s)
      | (replace s := Sep.drew s; first
        | refine Sep.LdI s (i := 0) rfl rfl rfl ?_
        | refine Sep.LdS s (i := 0) rfl rfl rfl ?_
        | refine Sep.LdB s (i := 0) rfl rfl rfl ?_
        | refine Sep.LdP s (i := 0) rfl rfl rfl ?_
        | refine And.intro (Sep.cell s (i := 0) rfl rfl rfl) ?_
        | (refine Sep.St s (i := 0) rfl rfl rfl fun w s => ?_; simp only [List.set_cons_zero, List.set_cons_succ] at s)
        | refine Sep.Bx s fun b w s => ?_
        | (refine Sep.Al s fun b w s => ?_; simp only [zc30, zc47] at s))
    exact two rfl rfl rfl
  · obtain ⟨e, hn⟩ := readP_num (x := 5) rfl (by decide) hu
    have hn : 4 ≤ r.length := hn
    repeat' first
      | refine Sep.LdI s (i := 0) rfl rfl rfl ?_
      | refine Sep.LdS s (i := 0) rfl rfl rfl ?_
      | refine Sep.LdB s (i := 0) rfl rfl rfl ?_
      | refine Sep.LdP s (i := 0) rfl rfl rfl ?_
      | refine And.intro (Sep.cell s (i := 0) rfl rfl rfl) ?_
      | (refine Sep.St s (i := 0) rfl rfl rfl fun w s => ?_; simp only [List.set_cons_zero, List.set_cons_succ] at s)
      | refine Sep.Bx s fun b w s => ?_
      | (refine Sep.Al s fun b w s => ?_; simp only [zc30, zc47] at s)
      | (replace s := Sep.drew s; first
        | refine Sep.LdI s (i := 0) rfl rfl rfl ?_
        | refine Sep.LdS s (i := 0) rfl rfl rfl ?_
        | refine Sep.LdB s (i := 0) rfl rfl rfl ?_
        | refine Sep.LdP s (i := 0) rfl rfl rfl ?_
        | refine And.intro (Sep.cell s (i := 0) rfl rfl rfl) ?_
        | (refine Sep.St s (i := 0) rfl rfl rfl fun w s => ?_; simp only [List.set_cons_zero, List.set_cons_succ] at s)
        | refine Sep.Bx s fun b w s => ?_
        | (refine Sep.Al s fun b w s => ?_; simp only [zc30, zc47] at s))
    refine hX.lo (m := 1) rfl (by omega) fun ta tn tc htn hT => ?_
    have hT : Sl w0 ta tn tc 1 by8 r := hT
    refine ref_number.spec (hT.fr (sep_fr s)) hrr (by omega) fun w f => ?_
    have s := Sep.call s f
    repeat' first
      | refine Sep.LdI s (i := 0) rfl rfl rfl ?_
      | refine Sep.LdS s (i := 0) rfl rfl rfl ?_
      | refine Sep.LdB s (i := 0) rfl rfl rfl ?_
      | refine Sep.LdP s (i := 0) rfl rfl rfl ?_
      | refine And.intro (Sep.cell s (i := 0) rfl rfl rfl) ?_
      | (refine Sep.St s (i := 0) rfl rfl rfl fun w s => ?_; simp only [List.set_cons_zero, List.set_cons_succ] at s)
      | refine Sep.Bx s fun b w s => ?_
      | (refine Sep.Al s fun b w s => ?_; simp only [zc30, zc47] at s)
      | (replace s := Sep.drew s; first
        | refine Sep.LdI s (i := 0) rfl rfl rfl ?_
        | refine Sep.LdS s (i := 0) rfl rfl rfl ?_
        | refine Sep.LdB s (i := 0) rfl rfl rfl ?_
        | refine Sep.LdP s (i := 0) rfl rfl rfl ?_
        | refine And.intro (Sep.cell s (i := 0) rfl rfl rfl) ?_
        | (refine Sep.St s (i := 0) rfl rfl rfl fun w s => ?_; simp only [List.set_cons_zero, List.set_cons_succ] at s)
        | refine Sep.Bx s fun b w s => ?_
        | (refine Sep.Al s fun b w s => ?_; simp only [zc30, zc47] at s))
    exact fin _ _ _ _ (by rw [e]; rfl) s
  · repeat' first
      | refine Sep.LdI s (i := 0) rfl rfl rfl ?_
      | refine Sep.LdS s (i := 0) rfl rfl rfl ?_
      | refine Sep.LdB s (i := 0) rfl rfl rfl ?_
      | refine Sep.LdP s (i := 0) rfl rfl rfl ?_
      | refine And.intro (Sep.cell s (i := 0) rfl rfl rfl) ?_
      | (refine Sep.St s (i := 0) rfl rfl rfl fun w s => ?_; simp only [List.set_cons_zero, List.set_cons_succ] at s)
      | refine Sep.Bx s fun b w s => ?_
      | (refine Sep.Al s fun b w s => ?_; simp only [zc30, zc47] at s)
      | (replace s := Sep.drew s; first
        | refine Sep.LdI s (i := 0) rfl rfl rfl ?_
        | refine Sep.LdS s (i := 0) rfl rfl rfl ?_
        | refine Sep.LdB s (i := 0) rfl rfl rfl ?_
        | refine Sep.LdP s (i := 0) rfl rfl rfl ?_
        | refine And.intro (Sep.cell s (i := 0) rfl rfl rfl) ?_
        | (refine Sep.St s (i := 0) rfl rfl rfl fun w s => ?_; simp only [List.set_cons_zero, List.set_cons_succ] at s)
        | refine Sep.Bx s fun b w s => ?_
        | (refine Sep.Al s fun b w s => ?_; simp only [zc30, zc47] at s))
    exact two rfl rfl rfl
  · obtain ⟨e, hn⟩ := readP_num (x := 7) rfl (by decide) hu
    repeat' first
      | refine Sep.LdI s (i := 0) rfl rfl rfl ?_
      | refine Sep.LdS s (i := 0) rfl rfl rfl ?_
      | refine Sep.LdB s (i := 0) rfl rfl rfl ?_
      | refine Sep.LdP s (i := 0) rfl rfl rfl ?_
      | refine And.intro (Sep.cell s (i := 0) rfl rfl rfl) ?_
      | (refine Sep.St s (i := 0) rfl rfl rfl fun w s => ?_; simp only [List.set_cons_zero, List.set_cons_succ] at s)
      | refine Sep.Bx s fun b w s => ?_
      | (refine Sep.Al s fun b w s => ?_; simp only [zc30, zc47] at s)
      | (replace s := Sep.drew s; first
        | refine Sep.LdI s (i := 0) rfl rfl rfl ?_
        | refine Sep.LdS s (i := 0) rfl rfl rfl ?_
        | refine Sep.LdB s (i := 0) rfl rfl rfl ?_
        | refine Sep.LdP s (i := 0) rfl rfl rfl ?_
        | refine And.intro (Sep.cell s (i := 0) rfl rfl rfl) ?_
        | (refine Sep.St s (i := 0) rfl rfl rfl fun w s => ?_; simp only [List.set_cons_zero, List.set_cons_succ] at s)
        | refine Sep.Bx s fun b w s => ?_
        | (refine Sep.Al s fun b w s => ?_; simp only [zc30, zc47] at s))
    exact fin _ _ _ _ (by rw [e]; rfl) s
  · obtain ⟨e, hn⟩ := readP_num (x := 8) rfl (by decide) hu
    repeat' first
      | refine Sep.LdI s (i := 0) rfl rfl rfl ?_
      | refine Sep.LdS s (i := 0) rfl rfl rfl ?_
      | refine Sep.LdB s (i := 0) rfl rfl rfl ?_
      | refine Sep.LdP s (i := 0) rfl rfl rfl ?_
      | refine And.intro (Sep.cell s (i := 0) rfl rfl rfl) ?_
      | (refine Sep.St s (i := 0) rfl rfl rfl fun w s => ?_; simp only [List.set_cons_zero, List.set_cons_succ] at s)
      | refine Sep.Bx s fun b w s => ?_
      | (refine Sep.Al s fun b w s => ?_; simp only [zc30, zc47] at s)
      | (replace s := Sep.drew s; first
        | refine Sep.LdI s (i := 0) rfl rfl rfl ?_
        | refine Sep.LdS s (i := 0) rfl rfl rfl ?_
        | refine Sep.LdB s (i := 0) rfl rfl rfl ?_
        | refine Sep.LdP s (i := 0) rfl rfl rfl ?_
        | refine And.intro (Sep.cell s (i := 0) rfl rfl rfl) ?_
        | (refine Sep.St s (i := 0) rfl rfl rfl fun w s => ?_; simp only [List.set_cons_zero, List.set_cons_succ] at s)
        | refine Sep.Bx s fun b w s => ?_
        | (refine Sep.Al s fun b w s => ?_; simp only [zc30, zc47] at s))
    exact fin _ _ _ _ (by rw [e]; rfl) s
attribute [local irreducible] herdsmanref26_Decode.b23 herdsmanref26_Decode.b20 in
theorem ref_Decode.spec {Q : Option Addr → Nat → Nat → World → Prop} (s0 : Sep F W w0 L) (hA : Sl w0 a n c 1 by8 bs) (hr : Rng bs) (hn : n ≤ 100000000)
    (h : ∀ oa on oc w', Sep F W w' L → Fr No w0 w' → Ops w' oa on oc (dec bs) → Q oa on oc w') : herdsmanref26_Decode.call a n c w0 Q := by
  refine herdsmanref26_Decode.body _ _ _ _ _ ?_
  unfold herdsmanref26_Decode.sh
  have hl := hA.len
  have loop : ∀ (m at0 : Nat) (oa : Option Addr) (on oc : Nat) (es : List (OpR × OpP)) (w : World) (L : List As), at0 ≤ n → n - at0 ≤ m → on ≤ at0 → es.map (·.2) ++ dec (bs.drop at0) = dec bs →
      Sep No w0 w (rowA oa on oc 30 4 (flat opc (es.map (·.1))) :: mapsA es :: L) → herdsmanref26_Decode.b3 Q (m + 1) a n c oa on oc at0 w := by
    have done : ∀ (oa : Option Addr) (on oc : Nat) (es : List (OpR × OpP)) (w : World) (L : List As), es.map (·.2) = dec bs → Sep No w0 w (rowA oa on oc 30 4 (flat opc (es.map (·.1))) :: mapsA es :: L) → Q oa on oc w := by
      intro oa on oc es w L he s
      have k := maps_know s
      rw [he] at k
      exact h oa on oc w (Sep.call s0 (sep_fr s)) (sep_fr s) k
    have stop : ∀ (R : Option Addr → Nat → Nat → Option Addr → Nat → Nat → Int → World → Prop) (oa : Option Addr) (on oc : Nat) (es : List (OpR × OpP)) (w : World) (L : List As), es.map (·.2) ++ dec (bs.drop n) = dec bs → Sep No w0 w (rowA oa on oc 30 4 (flat opc (es.map (·.1))) :: mapsA es :: L) → herdsmanref26_Decode.s3 Q R a n c oa on oc n w := by
      intro R oa on oc es w L he s
      unfold herdsmanref26_Decode.s3
      rw [decide_eq_false (by omega), cond_false]
      rw [List.drop_eq_nil_of_le (by omega), dec_nil, List.append_nil] at he
      exact done _ _ _ es _ _ he s
    intro m
    induction m with
    | zero =>
      intro at0 oa on oc es w L hat hm hon he s
      obtain rfl : at0 = n := by omega
      exact stop _ _ _ _ es _ _ he s
    | succ m ih =>
      intro at0 oa on oc es w L hat hm hon he s
      by_cases hend : at0 = n
      · subst hend
        exact stop _ _ _ _ es _ _ he s
      · show herdsmanref26_Decode.s3 Q (herdsmanref26_Decode.b3 Q (m + 1)) _ _ _ _ _ _ _ _
        unfold herdsmanref26_Decode.s3
        rw [decide_eq_true (by omega), cond_true]
        refine hA.lo rfl hat fun xa xn xc hxn hX => ?_
        have hdr := hr.drop at0
        obtain ⟨x, r, hxr⟩ : ∃ x r, bs.drop at0 = x :: r := by
          cases hb : bs.drop at0 with
          | nil =>
            have := hX.len
            rw [hb] at this
            simp at this
            omega
          | cons x r => exact ⟨x, r, rfl⟩
        have hd2 : ∀ u, bs.drop (at0 + u) = (x :: r).drop u := fun u => by rw [← hxr, List.drop_drop]
        rw [hxr] at hX hdr he
        obtain ⟨hx, hrr⟩ := hdr.cons
        have hl2 := hX.len
        refine ref_long.spec s (hX.fr (sep_fr s)) hdr (by omega) (by omega) fun w s _ => ?_
        have g0 : gi (x :: r) 0 = x := rfl
        unfold longI
        rw [g0]
        by_cases hk : shOk x = true
        · have hk8 := of_decide_eq_true hk
          rw [if_pos hk]
          by_cases hu : (readP (x :: r)).2 = 0
          · rw [if_pos hu, show ((-1 : Int) == 0) = false from rfl, cond_false, show decide ((-1 : Int) < 0) = true from rfl, cond_true]
            refine Sep.Bx s fun b w s => ?_
            refine clone0 s (hX.fr (sep_fr s)) (by omega) fun ra rc w s => ?_
            have s := Sep.perm s (List.Perm.trans (List.Perm.swap ..) (List.Perm.cons _ (List.Perm.swap ..)))
            refine addOp (v := ⟨0, -1, 0, ra, xn, rc⟩) (o := ⟨0, -1, 0, x :: r⟩) s ⟨rfl, rfl, rfl, hdr⟩ (by omega) fun a' c' w s => ?_
            refine done _ _ _ _ _ _ ?_ s
            rw [List.map_append, ← he, dec_cut (by simp) hu]
            rfl
          · rw [if_neg hu, show (((readP (x :: r)).2 : Int) == 0) = false by rw [beq_eq_false_iff_ne]; omega, cond_false, decide_eq_false (by omega), cond_false]
            refine Sl.rd8 (hX.fr (sep_fr s)) (k := 0) rfl (by omega) ?_
            rw [g0, wrap_i64 (n := x) (by omega) (by omega)]
            refine Sep.Al s fun b w s => ?_
            simp only [zc30] at s
            refine Sep.St s (i := 0) rfl rfl rfl fun w s => ?_
            refine Sep.St s (i := 0) rfl rfl rfl fun w s => ?_
            refine Sep.St s (i := 0) rfl rfl rfl fun w s => ?_
            refine Sep.St s (i := 0) rfl rfl rfl fun w s => ?_
            simp only [List.set_cons_zero, List.set_cons_succ] at s
            refine RD_whole hX hdr hk8 hu (by omega) (by omega) s fun v a' c' w L' s => ?_
            have hus := (wr_read hdr hu).2.2.2.1
            refine ih (at0 + (readP (x :: r)).2) a' (on + 1) c' _ w _ (by omega) (by omega) (by omega) ?_ s
            rw [List.map_append, hd2, ← he, dec_cons (by simp) hu, List.append_assoc]
            rfl
        · rw [if_neg hk, show ((0 : Int) == 0) = true from rfl, cond_true]
          refine Sl.rd8 (hX.fr (sep_fr s)) (k := 0) rfl (by omega) ?_
          rw [g0, wrap_i64 (n := x) (by omega) (by omega), wrap_i64 (n := (at0 : Int) + 1) (by omega) (by omega)]
          have s := Sep.perm (Sep.row_nil s 5 1) (List.Perm.trans (List.Perm.swap ..) (List.Perm.cons _ (List.Perm.swap ..)))
          refine addOp (v := ⟨0, x, 0, none, 0, 0⟩) (o := ⟨0, x, 0, []⟩) s ⟨rfl, rfl, rfl, Rng.nil⟩ (by omega) fun a' c' w s => ?_
          have e : readP (x :: r) = (⟨0, x, 0, []⟩, 1) := by rw [readP_cons, if_neg hk]
          refine ih (at0 + 1) a' (on + 1) c' _ w _ (by omega) (by omega) (by omega) ?_ s
          rw [List.map_append, hd2, ← he, dec_cons (l := x :: r) (by simp) (by rw [e]; exact Nat.one_ne_zero), e, List.append_assoc]
          rfl
  have s := Sep.row_nil (mapsA_nil (Sep.nil (F := No) (w := w0))) 30 4
  exact ⟨n + 1, loop n 0 none 0 0 [] w0 _ (by omega) (by omega) (by omega) rfl s⟩
theorem told.spec {Q : Bool → World → Prop} (s0 : Sep F W w0 L) (h : ∀ w', Sep F W w' L → Fr No w0 w' → Q true w') : herdsmanlaw26_told.call w0 Q := by
  refine herdsmanlaw26_told.body _ _ ?_
  unfold herdsmanlaw26_told.sh
  have s := Sep.nil (F := No) (w := w0)
  refine Sep.Bx s fun b w s => ?_
  have s := Sep.blk_row (n := 4) (size := 1) s (i := 0) rfl rfl (by decide) (by simp; decide)
  simp only [List.set_cons_zero] at s
  have e4 : ([.int .u8 7, .int .u8 9, .int .u8 6, .int .u8 1] : List Value) = flat by8 [7, 9, 6, 1] := rfl
  rw [e4] at s
  refine op_Decode.spec s (Sep.sl s (i := 0) rfl by8_len (by decide)) (by intro x hx; simp at hx; omega) (by decide) fun oa on oc w s _ hO => ?_
  have hd : dec [7, 9, 6, 1] = [⟨7, 0, 0, []⟩, ⟨0, 9, 0, []⟩, ⟨0, -1, 0, [6, 1]⟩] := by decide
  rw [hd] at hO
  have hon := hO.len
  subst hon
  rw [show ((([⟨7, 0, 0, []⟩, ⟨0, 9, 0, []⟩, ⟨0, -1, 0, [6, 1]⟩] : List OpP).length : Int) == 3) = true from rfl, cond_true]
  refine hO.El (k := 0) rfl (by decide) fun p v o ho hv hc => ?_
  cases ho
  have := hc 0 _ rfl
  rw [add_zero] at this
  refine LdI_cell this ?_
  rw [hv.k, show ((7 : Int) == 7) = true from rfl, cond_true]
  refine hO.El (k := 1) rfl (by decide) fun p v o ho hv hc => ?_
  cases ho
  have := hc 0 _ rfl
  rw [add_zero] at this
  refine LdI_cell this ?_
  rw [hv.k, show ((0 : Int) == 0) = true from rfl, cond_true]
  refine hO.El (k := 1) rfl (by decide) fun p v o ho hv hc => ?_
  cases ho
  refine LdI_cell (hc 1 _ rfl) ?_
  rw [hv.A, show ((9 : Int) == 9) = true from rfl, cond_true]
  refine hO.El (k := 2) rfl (by decide) fun p v o ho hv hc => ?_
  cases ho
  refine LdI_cell (hc 1 _ rfl) ?_
  rw [hv.A, show ((-1 : Int) == -1) = true from rfl, cond_true]
  refine hO.El (k := 2) rfl (by decide) fun p v o ho hv hc => ?_
  cases ho
  refine LdS_cell (hc 3 _ rfl) ?_
  have s1 := Sep.nil (F := No) (w := w)
  refine Sep.Bx s1 fun b w' s1 => ?_
  have s1 := Sep.blk_row (n := 2) (size := 1) s1 (i := 0) rfl rfl (by decide) (by simp; decide)
  simp only [List.set_cons_zero] at s1
  have e2 : ([.int .u8 6, .int .u8 1] : List Value) = flat by8 [6, 1] := rfl
  rw [e2] at s1
  refine ref_Bytes.spec (hv.m.fr (sep_fr s1)) (Sep.sl s1 (i := 0) rfl by8_len (by decide)) hv.rng (by intro x hx; simp at hx; omega) ?_
  have f := (sep_fr s).then (sep_fr s1)
  exact h _ (Sep.call s0 f) f
theorem OpReads_b9 {xa : Option Addr} {xn xc : Nat} {xs : List Int} {Q : Bool → World → Prop} (hr : Rng xs) (hn : xn ≤ 600) (hQ : ∀ w', Sep No W w' [] → Q true w') (s : Sep No W w [rowA xa xn xc 5 1 (flat by8 xs)]) :
    herdsmanlaw26_OpReads.b9 Q xa xn xc w := by
  unfold herdsmanlaw26_OpReads.b9
  refine Sep.Bx s fun b w s => ?_
  refine clone0 s (Sep.sl s (i := 1) rfl by8_len (by decide)) (by omega) fun ra rc w s => ?_
  refine told.spec s fun w s _ => ?_
  rw [cond_true]
  refine op_Decode.spec s (Sep.sl s (i := 1) rfl by8_len (by decide)) hr (by omega) fun oa on oc w s _ hO => ?_
  refine ref_Decode.spec s (Sep.sl s (i := 1) rfl by8_len (by decide)) hr (by omega) fun oa' on' oc' w s f hO' => ?_
  have hlen := (dec_all xs.length xs (Nat.le_refl _) hr).2.2.2
  have hx := Sep.sl s (i := 1) rfl by8_len (by decide)
  refine ref_SameAll.spec s (hO.fr f) hO' (by rw [← hO.len]; have := hx.len; omega) fun w s _ => ?_
  rw [decide_eq_true rfl, cond_true]
  refine ref_Bytes.spec (Sep.sl s (i := 1) rfl by8_len (by decide)) (Sep.sl s (i := 0) rfl by8_len (by decide)) hr hr ?_
  rw [decide_eq_true rfl]
  exact hQ _ (Sep.pick [] s rfl (by decide))
theorem OpReads_b5 {raw : Bool} {xa : Option Addr} {xn xc : Nat} {Q : Bool → World → Prop} (hn : xn ≤ 600) (hQ : ∀ w', Sep No W w' [] → Q true w') :
    ∀ (m i : Nat) (xs : List Int) (w : World), i + m = xn → Rng xs → Sep No W w [rowA xa xn xc 5 1 (flat by8 xs)] → herdsmanlaw26_OpReads.b5 Q (m + 1) raw xa xn xc i w := by
  intro m
  induction m with
  | zero =>
    intro i xs w hi hr s
    show herdsmanlaw26_OpReads.s5 Q (herdsmanlaw26_OpReads.b5 Q 0) _ _ _ _ _ _
    unfold herdsmanlaw26_OpReads.s5
    rw [decide_eq_false (by omega), cond_false]
    exact OpReads_b9 hr hn hQ s
  | succ m ih =>
    intro i xs w hi hr s
    show herdsmanlaw26_OpReads.s5 Q (herdsmanlaw26_OpReads.b5 Q (m + 1)) _ _ _ _ _ _
    unfold herdsmanlaw26_OpReads.s5
    rw [decide_eq_true (by omega), cond_true]
    cases raw with
    | true => exact OpReads_b9 hr hn hQ s
    | false =>
      rw [Bool.not_false, cond_true]
      have hx := Sep.sl s (i := 0) rfl by8_len (by decide)
      have hl := hx.len
      rw [wrap_i64 (n := (i : Int) + 1) (by omega) (by omega)]
      have hv := hr _ (gi_mem (l := xs) (i := i) (by omega))
      refine Sl.rd8 hx rfl (by omega) ?_
      by_cases h30 : gi xs i > 30
      · rw [decide_eq_true h30, cond_true]
        refine Sl.rd8 hx rfl (by omega) ?_
        refine ⟨by decide, ?_⟩
        refine Sep.El s (i := 0) (k := i) rfl rfl (by omega) fun g o e => ?_
        subst e
        rw [Int.tmod_eq_emod_of_nonneg hv.1]
        refine Sep.St_el (i := 0) (j := 0) (x' := gi xs i % 10) by8_len s rfl (gi_get (l := xs) (i := i) (by omega)) (by rw [add_flat]; congr 1) (by decide) rfl rfl fun w s => ?_
        simp only [List.set_cons_zero] at s
        refine ih (i + 1) _ _ (by omega) (fun x hx => ?_) s
        rcases List.mem_or_eq_of_mem_set hx with h1 | rfl
        · exact hr x h1
        · omega
      · rw [decide_eq_false h30, cond_false]
        exact ih (i + 1) _ _ (by omega) hr s
theorem herdsmanlaw26_OpReads.spec {raw : Bool} {Q : Bool → World → Prop} (hA : Sl W a n c 1 by8 bs) (hr : Rng bs) (hQ : ∀ w', Sep No W w' [] → Q true w') : herdsmanlaw26_OpReads.call a n c raw W Q := by
  refine herdsmanlaw26_OpReads.body _ _ _ _ _ _ ?_
  unfold herdsmanlaw26_OpReads.sh
  have s := Sep.nil (F := No) (w := W)
  by_cases hn : (n : Int) > 600
  · rw [decide_eq_true hn, cond_true]
    exact told.spec s fun w s _ => hQ w s
  · rw [decide_eq_false hn, cond_false]
    refine Sep.Bx s fun b w s => ?_
    refine clone0 s (hA.fr (sep_fr s)) (by omega) fun ra rc w s => ?_
    exact ⟨n + 1, OpReads_b5 (by omega) hQ n 0 bs w (by omega) hr s⟩
end
theorem OpReads_law : LawOk P 3 [.sl 1 (.int .u8), .bool] := by
  intro W args h
  obtain ⟨v0, r, rfl, h0, h⟩ := RdAll.cons h
  obtain ⟨v1, r, rfl, h1, h⟩ := RdAll.cons h
  obtain rfl := RdAll.nil h
  obtain ⟨a, n, c, cs, rfl, k1, k2, k3, k4, k5⟩ := rdV_ints (k := .u8) (W := W) h0
  obtain ⟨b, rfl⟩ := rdV_bool h1
  exact herdsmanlaw26_OpReads.spec (Q := fun r W' => r = true ∧ Go.RowKit.Below W.heap.size W W') ⟨k4, k1, k3⟩ (fun x hx => wf_u8 (k5 x hx)) fun w' s => ⟨rfl, sep_below s⟩
end Go.Proofs.Ytjndgflalbcngaa.S
