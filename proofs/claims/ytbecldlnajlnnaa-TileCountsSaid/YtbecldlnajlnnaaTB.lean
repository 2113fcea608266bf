/- Layer 2: Near, Open; the document's Near, MayTile, Ints. -/
import Derived.Test.YtbecldlnajlnnaaTA
set_option linter.unusedVariables false
set_option linter.unusedSimpArgs false
namespace Go.Proofs.Ytbecldlnajlnnaa.S
open Go.Sx
attribute [local irreducible] LdI LdB LdStr LdP LdS LdM LdV St Bx Al App Cpy MkS MkM EqK RunK RunU CallK SlK blkA rowA joinA
/-- The place beside l, at its side. -/
def put2 (W H x y : Int) : Int := if 0 ≤ x ∧ x < W ∧ 0 ≤ y ∧ y < H then y * W + x else -1
def besideI (W H l side : Int) : Int :=
  if side = 0 then put2 W H (l % W) (l / W - 1) else if side = 2 then put2 W H (l % W) (l / W + 1) else if side = 3 then put2 W H (l % W - 1) (l / W) else if side = 1 then put2 W H (l % W + 1) (l / W) else if side = 4 then put2 W H (l % W) (l / W) else -1
def nearI (tw th : Int) (cs : List Int) (l side : Int) : Int := cond (isB tw th cs l) (besideI tw th l side) (-1)
theorem isB_iff {tw th l : Int} {cs : List Int} : isB tw th cs l = true ↔ (0 ≤ l ∧ l < (cs.length : Int)) ∧ mayB tw th cs = true := by
  unfold isB
  rw [Bool.and_eq_true, decide_eq_true_eq]
/-- The row and the column of a place. -/
theorem place {tw th l : Int} (hw : 1 ≤ tw ∧ tw ≤ 16) (hh : 1 ≤ th ∧ th ≤ 16) (hl : 0 ≤ l ∧ l < tw * th) : 0 ≤ l % tw ∧ l % tw < tw ∧ 0 ≤ l / tw ∧ l / tw < th := by
  refine ⟨Int.emod_nonneg _ (by omega), Int.emod_lt_of_pos _ (by omega), Int.ediv_nonneg hl.1 (by omega), Int.ediv_lt_of_lt_mul (by omega) (by rw [Int.mul_comm]; exact hl.2)⟩
section
variable {F : Nat → Prop} {W w : World} {L : List As} {a : Option Addr} {n c : Nat} {cs : List Int}
theorem Near_b16 {tw th x y : Int} {b i : Nat} {v : Value} {Q : Int → World → Prop} (hw : 1 ≤ tw ∧ tw ≤ 16) (hh : 1 ≤ th ∧ th ≤ 16) (s : Sep F W w L) (hi : L[i]? = some (blkA b 24 [.int .i64 tw, .int .i64 th, v])) (h : Q (put2 tw th x y) w) : tile_Near.b16 Q ⟨b, 0, none⟩ x y w := by
  unfold tile_Near.b16
  unfold put2 at h
  by_cases h1 : x < 0
  · rw [decide_eq_true h1, cond_true]
    rwa [if_neg (by omega)] at h
  · rw [decide_eq_false h1, cond_false]
    refine Sep.LdI s (j := 0) rfl hi rfl ?_
    by_cases h2 : x ≥ tw
    · rw [decide_eq_true h2, cond_true]
      rwa [if_neg (by omega)] at h
    · rw [decide_eq_false h2, cond_false]
      by_cases h3 : y < 0
      · rw [decide_eq_true h3, cond_true]
        rwa [if_neg (by omega)] at h
      · rw [decide_eq_false h3, cond_false]
        refine Sep.LdI s (j := 1) rfl hi rfl ?_
        by_cases h4 : y ≥ th
        · rw [decide_eq_true h4, cond_true]
          rwa [if_neg (by omega)] at h
        · rw [decide_eq_false h4, cond_false]
          refine Sep.LdI s (j := 0) rfl hi rfl ?_
          have q1 : 0 ≤ y * tw := Int.mul_nonneg (by omega) (by omega)
          have q2 : y * tw ≤ 16 * 16 := Int.mul_le_mul (by omega) hw.2 (by omega) (by decide)
          rw [wrap_i64 (n := y * tw) (by omega) (by omega), wrap_i64 (by omega) (by omega)]
          rwa [if_pos (by omega)] at h
theorem tile_Near.spec {tw th l side : Int} {Q : Int → World → Prop} (s : Sep F W w L) (hA : ArgRow w a n 1 by8 cs) (h : ∀ w', Sep F W w' L → Fr No w w' → Q (nearI tw th cs l side) w') : tile_Near.call tw th a n c l side w Q := by
  refine tile_Near.body _ _ _ _ _ _ _ _ _ ?_
  unfold tile_Near.sh
  refine Sep.Bx (F := No) (W := w) (L := []) Sep.nil fun b1 w1 s1 => ?_
  refine Sep.LdI s1 (i := 0) rfl rfl rfl ?_
  refine Sep.LdI s1 (i := 0) rfl rfl rfl ?_
  refine Sep.LdS s1 (i := 0) rfl rfl rfl ?_
  refine tile_is.spec s1 (hA.fr (sep_fr s1)) fun w2 s2 k2 => ?_
  have hh := h w2 (Sep.call s (sep_fr s2)) (sep_fr s2)
  unfold nearI at hh
  cases hb : isB tw th cs l with
  | false =>
    rw [Bool.not_false, cond_true]
    rwa [hb, cond_false] at hh
  | true =>
    rw [Bool.not_true, cond_false]
    obtain ⟨hr, hm⟩ := isB_iff.1 hb
    obtain ⟨hw, hth, hlen, _⟩ := mayB_iff.1 hm
    have hpl := place hw hth (show 0 ≤ l ∧ l < tw * th by omega)
    have s3 : Sep No w w2.drew _ := s2
    have hh := h w2.drew (Sep.call (w' := w2.drew) s (sep_fr s3)) (sep_fr s3)
    unfold nearI at hh
    rw [hb, cond_true] at hh
    unfold besideI at hh
    refine Sep.LdI s3 (i := 0) (j := 0) rfl rfl rfl ?_
    refine ⟨by omega, ?_⟩
    refine Sep.LdI s3 (i := 0) (j := 0) rfl rfl rfl ?_
    refine ⟨by omega, Sep.cell s3 (i := 0) (j := 0) rfl rfl rfl, ?_⟩
    rw [Int.tmod_eq_emod_of_nonneg hr.1, Int.tdiv_eq_ediv_of_nonneg hr.1, wrap_i64 (n := l / tw) (by omega) (by omega)]
    by_cases c0 : side = 0
    · rw [if_pos c0] at hh
      rw [show (side == 0) = true by rw [beq_iff_eq]; exact c0, cond_true]
      unfold tile_Near.b12
      rw [wrap_i64 (by omega) (by omega)]
      exact Near_b16 hw hth s3 (i := 0) rfl hh
    · rw [if_neg c0] at hh
      rw [show (side == 0) = false by rw [beq_eq_false_iff_ne]; exact c0, cond_false]
      by_cases c2 : side = 2
      · rw [if_pos c2] at hh
        rw [show (side == 2) = true by rw [beq_iff_eq]; exact c2, cond_true]
        unfold tile_Near.b12
        rw [wrap_i64 (by omega) (by omega)]
        exact Near_b16 hw hth s3 (i := 0) rfl hh
      · rw [if_neg c2] at hh
        rw [show (side == 2) = false by rw [beq_eq_false_iff_ne]; exact c2, cond_false]
        by_cases c3 : side = 3
        · rw [if_pos c3] at hh
          rw [show (side == 3) = true by rw [beq_iff_eq]; exact c3, cond_true]
          unfold tile_Near.b14
          rw [wrap_i64 (by omega) (by omega)]
          exact Near_b16 hw hth s3 (i := 0) rfl hh
        · rw [if_neg c3] at hh
          rw [show (side == 3) = false by rw [beq_eq_false_iff_ne]; exact c3, cond_false]
          by_cases c1 : side = 1
          · rw [if_pos c1] at hh
            rw [show (side == 1) = true by rw [beq_iff_eq]; exact c1, cond_true]
            unfold tile_Near.b14
            rw [wrap_i64 (by omega) (by omega)]
            exact Near_b16 hw hth s3 (i := 0) rfl hh
          · rw [if_neg c1] at hh
            rw [show (side == 1) = false by rw [beq_eq_false_iff_ne]; exact c1, cond_false]
            by_cases c4 : side = 4
            · rw [if_pos c4] at hh
              rw [show (side == 4) = true by rw [beq_iff_eq]; exact c4, cond_true]
              exact Near_b16 hw hth s3 (i := 0) rfl hh
            · rw [if_neg c4] at hh
              rw [show (side == 4) = false by rw [beq_eq_false_iff_ne]; exact c4, cond_false]
              exact hh
/-- The places that are no walls, from k on. -/
def openI (cs : List Int) (k : Nat) : List Int := ((List.range' k (cs.length - k)).filter fun i => gi cs i != 255).map fun i : Nat => (i : Int)
theorem openI_step {cs : List Int} {k : Nat} (h : k < cs.length) : openI cs k = if gi cs k = 255 then openI cs (k + 1) else (k : Int) :: openI cs (k + 1) := by
  unfold openI
  obtain ⟨m, hm⟩ : ∃ m, cs.length - k = m + 1 := ⟨cs.length - k - 1, by omega⟩
  rw [hm, List.range'_succ, show cs.length - (k + 1) = m by omega]
  by_cases hc : gi cs k = 255
  · rw [if_pos hc, List.filter_cons_of_neg (by simp [hc])]
  · rw [if_neg hc, List.filter_cons_of_pos (by simp [hc])]
    rfl
theorem App1 {b : Nat} {oa : Option Addr} {on oc : Nat} {out : List Int} {v : Int} {K : Option Addr → Nat → Nat → World → Prop} (s : Sep F W w (blkA b 3 [.int .i64 v] :: rowA oa on oc 3 1 (flat one out) :: L)) (hn : on ≤ 100000)
    (h : ∀ a' c' w', Sep F W w' (rowA a' (on + 1) c' 3 1 (flat one (out ++ [v])) :: L) → Fr No w w' ∨ True → K a' (on + 1) c' w') : App P #[28, 28] 28 (.slice oa on oc) (.slice (some ⟨b, 0, none⟩) 1 1) w K := by
  have src : Src w (some ⟨b, 0, none⟩) 1 1 [.int .i64 v] := ⟨rfl, (fun u hu => by rw [List.mem_singleton.1 hu]; rfl), fun j u hj => by rw [add_flat, Nat.zero_add]; exact Sep.cell s (i := 0) rfl rfl hj⟩
  refine Sep.App tab_ok s (i := 1) (size := 1) (bytes := 8) rfl rfl rfl rfl rfl rfl (by decide) rfl src (by simp only [maxLen]; omega) (by omega) (fun e => by cases e) fun a1 c1 w1 s1 => ?_
  simp only [List.set_cons_zero, List.set_cons_succ] at s1
  have e : flat one out ++ [.int .i64 v] = flat one (out ++ [v]) := by rw [flat_append]; rfl
  rw [e] at s1
  exact h a1 c1 w1 (Sep.drop s1) (.inr trivial)
theorem Open_loop {Q : Option Addr → Nat → Nat → World → Prop} {w0 : World} (hA : ArgRow w0 a n 1 by8 cs) (hn : n ≤ 1000)
    (h : ∀ oa on oc w', Sep No w0 w' [rowA oa on oc 3 1 (flat one (openI cs 0))] → on = (openI cs 0).length → Q oa on oc w') :
    ∀ (m k on : Nat) (oa : Option Addr) (oc : Nat) (out : List Int) (w : World), k + m = n → on ≤ k → out.length = on → out ++ openI cs k = openI cs 0 → Sep No w0 w [rowA oa on oc 3 1 (flat one out)] → tile_Open.b5 Q (m + 1) oa on oc a n c n k w := by
  intro m
  induction m with
  | zero =>
    intro k on oa oc out w hk hon hl he s
    obtain rfl : k = n := by omega
    show tile_Open.s5 Q (tile_Open.b5 Q 0) _ _ _ _ _ _ _ _ _
    unfold tile_Open.s5
    rw [decide_eq_false (by omega), cond_false]
    have e0 : openI cs k = [] := by unfold openI; rw [hA.1, Nat.sub_self]; rfl
    rw [e0, List.append_nil] at he
    rw [he] at s hl
    exact h oa on oc w s hl.symm
  | succ m ih =>
    intro k on oa oc out w hk hon hl he s
    show tile_Open.s5 Q (tile_Open.b5 Q (m + 1)) _ _ _ _ _ _ _ _ _
    unfold tile_Open.s5
    have hA1 := hA.fr (sep_fr s)
    obtain ⟨ad, rfl, hc⟩ := rd_at hA1 (i := k) (by omega)
    rw [decide_eq_true (by omega), cond_true]
    refine ⟨by omega, by omega, wA_some ?_⟩
    refine LdI_cell hc ?_
    have hstep := openI_step (cs := cs) (k := k) (by rw [hA.1]; omega)
    rw [wrap_i64 (n := (k : Int) + 1) (by omega) (by omega)]
    by_cases hv : gi cs k = 255
    · rw [hv, bne_self_eq_false, cond_false]
      rw [if_pos hv] at hstep
      exact ih (k + 1) on oa oc out w (by omega) (by omega) hl (by rw [← hstep]; exact he) s
    · rw [show (gi cs k != 255) = true by rw [bne_iff_ne]; exact hv, cond_true]
      rw [if_neg hv] at hstep
      refine Sep.Bx s fun b w1 s => ?_
      refine App1 s (by omega) fun a' c' w2 s2 _ => ?_
      refine ih (k + 1) (on + 1) a' c' (out ++ [(k : Int)]) w2 (by omega) (by omega) (by simp [hl]) ?_ s2
      rw [List.append_assoc, List.singleton_append, ← hstep]
      exact he
def openL (tw th : Int) (cs : List Int) : List Int := cond (mayB tw th cs) (openI cs 0) []
theorem tile_Open.spec {tw th : Int} {Q : Option Addr → Nat → Nat → World → Prop} (s : Sep F W w L) (hA : ArgRow w a n 1 by8 cs)
    (h : ∀ oa on oc w', Sep F W w' (rowA oa on oc 3 1 (flat one (openL tw th cs)) :: L) → Fr No w w' → on = (openL tw th cs).length → Q oa on oc w') : tile_Open.call tw th a n c w Q := by
  refine tile_Open.body _ _ _ _ _ _ _ ?_
  unfold tile_Open.sh
  refine Sep.Bx (F := No) (W := w) (L := []) Sep.nil fun b1 w1 s1 => ?_
  refine Sep.LdI s1 (i := 0) rfl rfl rfl ?_
  refine Sep.LdI s1 (i := 0) rfl rfl rfl ?_
  refine Sep.LdS s1 (i := 0) rfl rfl rfl ?_
  refine tile_May.spec s1 (hA.fr (sep_fr s1)) fun w2 s2 k2 => ?_
  unfold openL at h
  cases hb : mayB tw th cs with
  | false =>
    rw [Bool.not_false, cond_true]
    rw [hb, cond_false] at h
    exact h none 0 0 w2 (Sep.row_nil (Sep.call s (sep_fr s2)) 3 1) (sep_fr s2) rfl
  | true =>
    rw [Bool.not_true, cond_false]
    rw [hb, cond_true] at h
    obtain ⟨hw, hth, hlen, _⟩ := mayB_iff.1 hb
    have hp : tw * th ≤ 256 := Int.mul_le_mul hw.2 hth.2 (by omega) (by decide)
    have hl := hA.1
    refine Sep.LdS s2 (i := 0) rfl rfl rfl ?_
    refine ⟨n + 1, Open_loop (w0 := w) hA (by omega) (fun oa on oc w' s' hon => ?_) n 0 0 none 0 [] w2 (by omega) (by omega) rfl rfl (Sep.drop (Sep.perm (Sep.row_nil s2 3 1) (List.Perm.swap ..)))⟩
    refine h oa on oc w' (Sep.new s (sep_fr s') (Sep.get s' (i := 0) rfl) fun b hb => ?_) (sep_fr s') hon
    rcases (SepM.ok s' _ List.mem_cons_self).2 b hb with h1 | h1
    · exact h1.elim
    · exact h1
end
end Go.Proofs.Ytbecldlnajlnnaa.S
