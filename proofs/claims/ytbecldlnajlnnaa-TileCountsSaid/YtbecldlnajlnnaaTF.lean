/- Layer 2: TileAsks answers true. -/
import Derived.Test.YtbecldlnajlnnaaTE
set_option linter.unusedVariables false
set_option linter.unusedSimpArgs false
namespace Go.Proofs.Ytbecldlnajlnnaa.S
open Go.Sx
attribute [local irreducible] LdI LdB LdStr LdP LdS LdM LdV St Bx Al App Cpy MkS MkM EqK RunK RunU CallK SlK blkA rowA joinA
section
variable {W w : World} {L : List As} {Q : Bool → World → Prop} {tw th l side : Int} {ra : Option Addr} {rn rc px : Nat} {ys : List Int}
theorem Asks_b16 {la : Option Addr} {ln lc : Nat} (hn : rn ≤ 600) (hys : ∀ x ∈ ys, 0 ≤ x ∧ x < 256) (hQ : ∀ w', Sep No W w' L → Q true w') (hln : ln ≤ 600)
    (s : Sep No W w (rowA la ln lc 3 1 (flat one (openL tw th ys)) :: blkA px 24 (tl tw th ra rn rc) :: rowA ra rn rc 5 1 (flat by8 ys) :: L)) : herdsmanlaw2_TileAsks.b16 Q l side ⟨px, 0, none⟩ (atI tw th ys l) la ln lc w := by
  unfold herdsmanlaw2_TileAsks.b16
  have s0 : Sep No W w.drew _ := s
  refine herdsmanlaw2_told.spec s0 fun w1 s1 _ => ?_
  rw [cond_true]
  refine Sep.LdI s1 (i := 1) (j := 0) rfl rfl rfl ?_
  refine Sep.LdI s1 (i := 1) (j := 1) rfl rfl rfl ?_
  refine Sep.LdS s1 (i := 1) (j := 2) rfl rfl rfl ?_
  refine Sep.LdI s1 (i := 1) (j := 0) rfl rfl rfl ?_
  refine Sep.LdI s1 (i := 1) (j := 1) rfl rfl rfl ?_
  refine Sep.LdS s1 (i := 1) (j := 2) rfl rfl rfl ?_
  refine tile_May.spec s1 (Sep.argrow s1 (i := 2) rfl by8_len (by decide)) fun w2 s2 _ => ?_
  refine ⟨Sep.cell s2 (i := 1) (j := 0) rfl rfl rfl, Sep.cell s2 (i := 1) (j := 1) rfl rfl rfl, Sep.cell s2 (i := 1) (j := 2) rfl rfl rfl, ?_⟩
  refine ref_MayTile.spec s2 (Sep.argrow s2 (i := 2) rfl by8_len (by decide)) fun w3 s3 _ => ?_
  rw [beq_self_eq_true, cond_true]
  refine Sep.LdI s3 (i := 1) (j := 0) rfl rfl rfl ?_
  refine Sep.LdI s3 (i := 1) (j := 1) rfl rfl rfl ?_
  refine Sep.LdS s3 (i := 1) (j := 2) rfl rfl rfl ?_
  refine tile_At.spec s3 (Sep.argrow s3 (i := 2) rfl by8_len (by decide)) hys fun w4 s4 _ => ?_
  rw [beq_self_eq_true, cond_true]
  refine Sep.LdI s4 (i := 1) (j := 0) rfl rfl rfl ?_
  refine Sep.LdI s4 (i := 1) (j := 1) rfl rfl rfl ?_
  refine Sep.LdS s4 (i := 1) (j := 2) rfl rfl rfl ?_
  refine Sep.LdI s4 (i := 1) (j := 0) rfl rfl rfl ?_
  refine Sep.LdI s4 (i := 1) (j := 1) rfl rfl rfl ?_
  refine Sep.LdS s4 (i := 1) (j := 2) rfl rfl rfl ?_
  refine tile_Near.spec s4 (Sep.argrow s4 (i := 2) rfl by8_len (by decide)) fun w5 s5 _ => ?_
  refine ⟨Sep.cell s5 (i := 1) (j := 0) rfl rfl rfl, Sep.cell s5 (i := 1) (j := 1) rfl rfl rfl, Sep.cell s5 (i := 1) (j := 2) rfl rfl rfl, ?_⟩
  refine ref_Near.spec s5 (Sep.argrow s5 (i := 2) rfl by8_len (by decide)) fun w6 s6 _ => ?_
  rw [beq_self_eq_true, cond_true]
  refine Sep.LdI s6 (i := 1) (j := 0) rfl rfl rfl ?_
  refine Sep.LdI s6 (i := 1) (j := 1) rfl rfl rfl ?_
  refine Sep.LdS s6 (i := 1) (j := 2) rfl rfl rfl ?_
  refine tile_Open.spec s6 (Sep.argrow s6 (i := 2) rfl by8_len (by decide)) fun oa on oc w7 s7 _ hon => ?_
  have hX := Sep.argrow s7 (i := 0) rfl one_len (by decide)
  have hY := Sep.argrow s7 (i := 1) rfl one_len (by decide)
  refine ref_Ints.spec s7 hX hY (by rw [← hX.1, hY.1]; omega) fun w8 s8 _ => ?_
  rw [decide_eq_true rfl]
  exact hQ w8 (Sep.drop (Sep.drop (Sep.drop (Sep.drop s8))))
theorem Asks_b12 {at0 : Int} (hn : rn ≤ 600) (hl : ys.length = rn) (hmay : mayB tw th ys = true)
    (h : ∀ la ln lc w', ln ≤ 600 → Sep No W w' (rowA la ln lc 3 1 (flat one (openL tw th ys)) :: blkA px 24 (tl tw th ra rn rc) :: rowA ra rn rc 5 1 (flat by8 ys) :: L) → herdsmanlaw2_TileAsks.b16 Q l side ⟨px, 0, none⟩ at0 la ln lc w') :
    ∀ (m k ln lc : Nat) (la : Option Addr) (out : List Int) (w : World), k + m = rn → ln ≤ k → out.length = ln → out ++ openI ys k = openI ys 0 →
      Sep No W w (rowA la ln lc 3 1 (flat one out) :: blkA px 24 (tl tw th ra rn rc) :: rowA ra rn rc 5 1 (flat by8 ys) :: L) → herdsmanlaw2_TileAsks.b12 Q (m + 1) l side ⟨px, 0, none⟩ at0 la ln lc k w := by
  intro m
  induction m with
  | zero =>
    intro k ln lc la out w hk hln hlo he s
    obtain rfl : k = rn := by omega
    show herdsmanlaw2_TileAsks.s12 Q (herdsmanlaw2_TileAsks.b12 Q 0) _ _ _ _ _ _ _ _ _
    unfold herdsmanlaw2_TileAsks.s12
    refine Sep.LdS s (i := 1) (j := 2) rfl rfl rfl ?_
    rw [decide_eq_false (by omega), cond_false]
    have e0 : openI ys k = [] := by unfold openI; rw [hl, Nat.sub_self]; rfl
    rw [e0, List.append_nil] at he
    have e1 : openL tw th ys = out := by unfold openL; rw [hmay, cond_true, he]
    refine h la ln lc w (by omega) ?_
    rw [e1]
    exact s
  | succ m ih =>
    intro k ln lc la out w hk hln hlo he s
    show herdsmanlaw2_TileAsks.s12 Q (herdsmanlaw2_TileAsks.b12 Q (m + 1)) _ _ _ _ _ _ _ _ _
    unfold herdsmanlaw2_TileAsks.s12
    have hA1 := Sep.argrow s (i := 2) rfl by8_len (by decide)
    obtain ⟨ad, e, hc⟩ := rd_at hA1 (i := k) (by omega)
    refine Sep.LdS s (i := 1) (j := 2) rfl rfl rfl ?_
    rw [decide_eq_true (by omega), cond_true]
    refine Sep.LdS s (i := 1) (j := 2) rfl rfl rfl ?_
    refine ⟨by omega, by omega, ?_⟩
    rw [e]
    refine wA_some ?_
    refine LdI_cell hc ?_
    have hstep := openI_step (cs := ys) (k := k) (by omega)
    rw [wrap_i64 (n := (k : Int) + 1) (by omega) (by omega)]
    by_cases hv : gi ys k = 255
    · rw [hv, bne_self_eq_false, cond_false]
      rw [if_pos hv] at hstep
      exact ih (k + 1) ln lc la out w (by omega) (by omega) hlo (by rw [← hstep]; exact he) s
    · rw [show (gi ys k != 255) = true by rw [bne_iff_ne]; exact hv, cond_true]
      rw [if_neg hv] at hstep
      refine Sep.Bx s fun b w1 s1 => ?_
      refine App1 s1 (by omega) fun a' c' w2 s2 _ => ?_
      refine ih (k + 1) (ln + 1) c' a' (out ++ [(k : Int)]) w2 (by omega) (by omega) (by simp [hlo]) ?_ s2
      rw [List.append_assoc, List.singleton_append, ← hstep]
      exact he
theorem Asks_b6 (hn : rn ≤ 600) (hl : ys.length = rn) (hys : ∀ x ∈ ys, 0 ≤ x ∧ x < 256) (hQ : ∀ w', Sep No W w' L → Q true w') (s : Sep No W w (blkA px 24 (tl tw th ra rn rc) :: rowA ra rn rc 5 1 (flat by8 ys) :: L)) :
    herdsmanlaw2_TileAsks.b6 Q l side ⟨px, 0, none⟩ w := by
  unfold herdsmanlaw2_TileAsks.b6
  refine Sep.LdI s (i := 0) (j := 0) rfl rfl rfl ?_
  refine Sep.LdI s (i := 0) (j := 1) rfl rfl rfl ?_
  refine Sep.LdS s (i := 0) (j := 2) rfl rfl rfl ?_
  refine ref_MayTile.spec s (Sep.argrow s (i := 1) rfl by8_len (by decide)) fun w1 s1 _ => ?_
  cases hb : mayB tw th ys with
  | false =>
    rw [cond_false]
    have e1 : atI tw th ys l = 0 := by unfold atI isB; rw [hb, Bool.and_false, cond_false]
    have e2 : openL tw th ys = [] := by unfold openL; rw [hb, cond_false]
    have := Asks_b16 (l := l) (side := side) (tw := tw) (th := th) (ys := ys) (Q := Q) (ra := ra) (rc := rc) (px := px) (la := none) (ln := 0) (lc := 0) hn hys hQ (by omega) (by rw [e2]; exact Sep.row_nil s1 3 1)
    rwa [e1] at this
  | true =>
    rw [cond_true]
    have fin : ∀ (at0 : Int) (w' : World), at0 = atI tw th ys l → Sep No W w' (blkA px 24 (tl tw th ra rn rc) :: rowA ra rn rc 5 1 (flat by8 ys) :: L) → ∃ k', herdsmanlaw2_TileAsks.b12 Q k' l side ⟨px, 0, none⟩ at0 none 0 0 0 w' := by
      intro at0 w' e s'
      subst e
      exact ⟨rn + 1, Asks_b12 hn hl hb (fun la ln lc w2 hln s2 => Asks_b16 hn hys hQ hln s2) rn 0 0 0 none [] w' (by omega) (by omega) rfl rfl (Sep.row_nil s' 3 1)⟩
    refine Sep.LdS s1 (i := 0) (j := 2) rfl rfl rfl ?_
    rw [wrap_i64 (by omega) (by omega)]
    refine ref_In.spec ?_
    by_cases hr : 0 ≤ l ∧ l ≤ (rn : Int) - 1
    · rw [decide_eq_true hr, cond_true]
      obtain ⟨i, rfl⟩ : ∃ i : Nat, l = i := ⟨l.toNat, by omega⟩
      have hA1 := Sep.argrow s1 (i := 1) rfl by8_len (by decide)
      obtain ⟨ad, e, hc⟩ := rd_at hA1 (i := i) (by omega)
      refine Sep.LdS s1 (i := 0) (j := 2) rfl rfl rfl ?_
      refine ⟨by omega, by omega, ?_⟩
      rw [e]
      refine wA_some ?_
      refine LdI_cell hc ?_
      have hv := hys _ (gi_mem (l := ys) (i := i) (by omega))
      rw [wrap_i64 (by omega) (by omega)]
      refine fin _ w1 ?_ s1
      unfold atI isB
      rw [hb, decide_eq_true (by omega)]
      rfl
    · rw [decide_eq_false hr, cond_false]
      refine fin _ w1 ?_ s1
      unfold atI isB
      rw [decide_eq_false (by omega)]
      rfl
theorem herdsmanlaw2_TileAsks.spec {a : Option Addr} {n c : Nat} {cs : List Int} {w1 h1 : Int} {raw : Bool} (hA : ArgRow W a n 1 by8 cs) (hcs : ∀ x ∈ cs, 0 ≤ x ∧ x < 256) (hac : a = none → c = 0) (hQ : ∀ w', Sep No W w' [] → Q true w') :
    herdsmanlaw2_TileAsks.call tw th a n c w1 h1 l side raw W Q := by
  refine herdsmanlaw2_TileAsks.body _ _ _ _ _ _ _ _ _ _ _ _ ?_
  unfold herdsmanlaw2_TileAsks.sh
  refine Sep.Bx (F := No) (W := W) (L := []) Sep.nil fun b1 w1 s1 => ?_
  refine Sep.LdS s1 (i := 0) (j := 2) rfl rfl rfl ?_
  by_cases hn : (n : Int) > 600
  · rw [decide_eq_true hn, cond_true]
    exact herdsmanlaw2_told.spec s1 fun w2 s2 _ => hQ w2 (Sep.drop s2)
  · rw [decide_eq_false hn, cond_false]
    refine Sep.LdI s1 (i := 0) (j := 0) rfl rfl rfl ?_
    refine Sep.LdI s1 (i := 0) (j := 1) rfl rfl rfl ?_
    refine Sep.LdS s1 (i := 0) (j := 2) rfl rfl rfl ?_
    refine near.spec (F := No) (W := W) (L := []) (Sep.drop s1) (hA.fr (sep_fr s1)) hcs (by omega) hac fun tw th ra rn rc ys w2 k1 k2 k3 s2 => ?_
    refine Sep.Al s2 fun px w3 s3 => ?_
    rw [zc24] at s3
    refine Sep.St s3 (i := 0) rfl rfl rfl fun w4 s4 => ?_
    refine Sep.St s4 (i := 0) rfl rfl rfl fun w5 s5 => ?_
    refine Sep.St s5 (i := 0) rfl rfl rfl fun w6 s6 => ?_
    simp only [List.set_cons_zero, List.set_cons_succ] at s6
    have s6 : Sep No W w6 (blkA px 24 (tl tw th ra rn rc) :: rowA ra rn rc 5 1 (flat by8 ys) :: []) := s6
    cases raw with
    | true =>
      rw [Bool.not_true, cond_false]
      exact Asks_b6 k2 k1.symm k3 hQ s6
    | false =>
      rw [Bool.not_false, cond_true]
      refine Sep.LdS s6 (i := 0) (j := 2) rfl rfl rfl ?_
      refine herdsmanref1_Within.spec (by omega) (by decide) (by omega) ?_
      refine herdsmanref1_Within.spec (by decide) (by decide) (by decide) ?_
      exact Asks_b6 k2 k1.symm k3 hQ s6
end
def tileS : Sh := .agg 3 [(0, 1, .int .i64), (1, 1, .int .i64), (2, 1, .sl 1 (.int .u8))]
theorem rd_bytes {W : World} {v : Value} (h : Rd W (.sl 1 (.int .u8)) [v]) : ∃ a n c cs, v = .slice a n c ∧ n ≤ c ∧ (a = none → c = 0) ∧ ArgRow W a n 1 by8 cs ∧ ∀ x ∈ cs, 0 ≤ x ∧ x < 256 := by
  obtain ⟨a, n, c, xs, rfl, h1, _, h3, h4, h5⟩ := rdV_ints (k := .u8) (v := v) (W := W) h
  exact ⟨a, n, c, xs, rfl, h1, h3, h4, fun x hx => wf_u8 (h5 x hx)⟩
theorem rdV_tile {W : World} {v : Value} (h : RdV W tileS v) : ∃ tw th a n c cs, v = .agg #[.int .i64 tw, .int .i64 th, .slice a n c] ∧ n ≤ c ∧ (a = none → c = 0) ∧ ArgRow W a n 1 by8 cs ∧ ∀ x ∈ cs, 0 ≤ x ∧ x < 256 := by
  obtain ⟨cs, rfl, hl, h0⟩ := rdV_agg h
  match cs, hl with
  | [v0, v1, v2], _ =>
    obtain ⟨k0, h0⟩ := rdF_cons h0
    obtain ⟨k1, h0⟩ := rdF_cons h0
    obtain ⟨k2, h0⟩ := rdF_cons h0
    obtain ⟨tw, rfl, _⟩ := rd_int (w := W) k0
    obtain ⟨th, rfl, _⟩ := rd_int (w := W) k1
    obtain ⟨a, n, c, cs, rfl, r⟩ := rd_bytes k2
    exact ⟨tw, th, a, n, c, cs, rfl, r⟩
theorem TileAsks_law : LawOk P 3 [tileS, .int .i64, .int .i64, .int .i64, .int .i64, .bool] := by
  intro W args h
  obtain ⟨v0, r, rfl, h0, h⟩ := RdAll.cons h
  obtain ⟨v1, r, rfl, h1, h⟩ := RdAll.cons h
  obtain ⟨v2, r, rfl, h2, h⟩ := RdAll.cons h
  obtain ⟨v3, r, rfl, h3, h⟩ := RdAll.cons h
  obtain ⟨v4, r, rfl, h4, h⟩ := RdAll.cons h
  obtain ⟨v5, r, rfl, h5, h⟩ := RdAll.cons h
  obtain rfl := RdAll.nil h
  obtain ⟨tw, th, a, n, c, cs, rfl, _, q2, q3, q4⟩ := rdV_tile h0
  obtain ⟨x1, rfl, _⟩ := rdV_int h1
  obtain ⟨x2, rfl, _⟩ := rdV_int h2
  obtain ⟨x3, rfl, _⟩ := rdV_int h3
  obtain ⟨x4, rfl, _⟩ := rdV_int h4
  obtain ⟨b, rfl⟩ := rdV_bool h5
  exact herdsmanlaw2_TileAsks.spec (Q := fun r W' => r = true ∧ Go.RowKit.Below W.heap.size W W') q3 q4 q2 fun w' s => ⟨rfl, sep_below s⟩
end Go.Proofs.Ytbecldlnajlnnaa.S
