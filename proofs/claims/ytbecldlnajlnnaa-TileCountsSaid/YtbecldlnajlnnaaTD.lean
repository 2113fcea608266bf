/- Layer 2: the document's MadeTile, OwnTile; near; told answers true. -/
import Derived.Test.YtbecldlnajlnnaaTC
set_option linter.unusedVariables false
set_option linter.unusedSimpArgs false
namespace Go.Proofs.Ytbecldlnajlnnaa.S
open Go.Sx
theorem zc24 : zc T 24 = [.int .i64 0, .int .i64 0, .slice none 0 0] := rfl
attribute [local irreducible] LdI LdB LdStr LdP LdS LdM LdV St Bx Al App Cpy MkS MkM EqK RunK RunU CallK SlK blkA rowA joinA
theorem herdsmanref1_Within.spec {n lo hi : Int} {w : World} {Q : Int → World → Prop} (h1 : lo ≤ hi) (h2 : -1099511627776 ≤ lo) (h3 : hi ≤ 1099511627776) (h : Q (lo + n % (hi - lo + 1)) w) : herdsmanref1_Within.call n lo hi w Q := by
  refine herdsmanref1_Within.body _ _ _ _ _ ?_
  unfold herdsmanref1_Within.sh
  rw [wrap_i64 (n := hi - lo) (by omega) (by omega), wrap_i64 (n := hi - lo + 1) (by omega) (by omega)]
  generalize hs : hi - lo + 1 = s at h
  have h4 := Int.lt_tmod_of_pos n (b := s) (by omega)
  have h5 := Int.tmod_lt_of_pos n (b := s) (by omega)
  have h6 := Int.tmod_add_mul_tdiv n s
  refine ⟨by omega, ?_⟩
  generalize ht : Int.tmod n s = t at *
  have e : n % s = t % s := by rw [← h6, Int.add_mul_emod_self_left]
  by_cases hn : t < 0
  · rw [decide_eq_true hn, cond_true, wrap_i64 (n := t + hi) (by omega) (by omega), wrap_i64 (n := t + hi - lo) (by omega) (by omega), wrap_i64 (n := t + hi - lo + 1) (by omega) (by omega), wrap_i64 (by omega) (by omega)]
    have e2 : t % s = t + s := by rw [← Int.add_emod_right, Int.emod_eq_of_lt (by omega) (by omega)]
    rw [e, e2] at h
    have e3 : t + hi - lo + 1 = t + s := by omega
    rw [e3]; exact h
  · rw [decide_eq_false hn, cond_false, wrap_i64 (by omega) (by omega)]
    rw [e, Int.emod_eq_of_lt (by omega) h5] at h
    exact h
theorem within_range {n lo hi : Int} (h : lo ≤ hi) : lo ≤ lo + n % (hi - lo + 1) ∧ lo + n % (hi - lo + 1) ≤ hi := by
  have h1 := Int.emod_nonneg n (b := hi - lo + 1) (by omega)
  have h2 := Int.emod_lt_of_pos n (b := hi - lo + 1) (by omega)
  omega
section
variable {F : Nat → Prop} {W w : World} {L : List As} {a : Option Addr} {n c : Nat} {cs : List Int}
theorem ref_Cost.spec {x : Int} {Q : Int → World → Prop} (hx : 0 ≤ x ∧ x < 256) (h : ∀ r, 1 ≤ r ∧ r < 256 → Q r w) : herdsmanref1_Cost.call x w Q := by
  refine herdsmanref1_Cost.body _ _ _ ?_
  unfold herdsmanref1_Cost.sh
  refine ⟨by decide, ?_⟩
  cases (Int.tmod x 8 == 7) with
  | true => exact h 255 (by decide)
  | false =>
    rw [cond_false]
    by_cases h1 : x < 160
    · rw [decide_eq_true h1, cond_true]
      refine ⟨by decide, ?_⟩
      rw [Int.tmod_eq_emod_of_nonneg hx.1, wrap_u8 (by omega) (by omega)]
      exact h _ (by omega)
    · rw [decide_eq_false h1, cond_false]
      exact h x (by omega)
theorem Made_loop {tw th : Int} {t6 t : Nat} {w0 : World} {Q : Int → Int → Option Addr → Nat → Nat → World → Prop} (hA : ArgRow w0 a n 1 by8 cs) (hcs : ∀ x ∈ cs, 0 ≤ x ∧ x < 256) (hn : n < 9223372036854775808) (hw : 1 ≤ tw ∧ tw ≤ 16) (hth : 1 ≤ th ∧ th ≤ 16)
    (h : ∀ ra rn rc ys w', (ys.length : Int) = tw * th → rn = ys.length → (∀ x ∈ ys, 1 ≤ x ∧ x < 256) → Sep No w0 w' [rowA ra rn rc 5 1 (flat by8 ys)] → Q tw th ra rn rc w') :
    ∀ (m i rc : Nat) (ra : Option Addr) (ys : List Int) (w : World), ((i + m : Nat) : Int) = tw * th → ys.length = i → (∀ x ∈ ys, 1 ≤ x ∧ x < 256) →
      Sep No w0 w [blkA t 24 [.int .i64 tw, .int .i64 th, .slice ra i rc], rowA ra i rc 5 1 (flat by8 ys), blkA t6 24 [.int .i64 0, .int .i64 0, .slice none 0 0]] → herdsmanref1_MadeTile.b3 Q (m + 1) a n c ⟨t6, 0, none⟩ ⟨t, 0, none⟩ i w := by
  have q2 : tw * th ≤ 16 * 16 := Int.mul_le_mul hw.2 hth.2 (by omega) (by decide)
  intro m
  induction m with
  | zero =>
    intro i rc ra ys w hi hl hys s
    show herdsmanref1_MadeTile.s3 Q (herdsmanref1_MadeTile.b3 Q 0) _ _ _ _ _ _ _
    unfold herdsmanref1_MadeTile.s3
    refine Sep.LdI s (i := 0) (j := 0) rfl rfl rfl ?_
    refine Sep.LdI s (i := 0) (j := 1) rfl rfl rfl ?_
    rw [wrap_i64 (n := tw * th) (by omega) (by omega), decide_eq_false (by omega), cond_false]
    refine Sep.LdI s (i := 0) (j := 0) rfl rfl rfl ?_
    refine Sep.LdI s (i := 0) (j := 1) rfl rfl rfl ?_
    refine Sep.LdS s (i := 0) (j := 2) rfl rfl rfl ?_
    refine Sep.St s (i := 2) rfl rfl rfl fun w1 s => ?_
    refine Sep.St s (i := 2) rfl rfl rfl fun w2 s => ?_
    refine Sep.St s (i := 2) rfl rfl rfl fun w3 s => ?_
    simp only [List.set_cons_zero, List.set_cons_succ] at s
    refine Sep.LdI s (i := 2) (j := 0) rfl rfl rfl ?_
    refine Sep.LdI s (i := 2) (j := 1) rfl rfl rfl ?_
    refine Sep.LdS s (i := 2) (j := 2) rfl rfl rfl ?_
    exact h ra i rc ys w3 (by omega) hl.symm hys (Sep.sub s (.cons _ (.cons_cons _ (.cons _ .slnil))))
  | succ m ih =>
    intro i rc ra ys w hi hl hys s
    show herdsmanref1_MadeTile.s3 Q (herdsmanref1_MadeTile.b3 Q (m + 1)) _ _ _ _ _ _ _
    unfold herdsmanref1_MadeTile.s3
    refine Sep.LdI s (i := 0) (j := 0) rfl rfl rfl ?_
    refine Sep.LdI s (i := 0) (j := 1) rfl rfl rfl ?_
    rw [wrap_i64 (n := tw * th) (by omega) (by omega), decide_eq_true (by omega), cond_true]
    have b9 : ∀ x : Int, 0 ≤ x ∧ x < 256 → herdsmanref1_MadeTile.b9 (herdsmanref1_MadeTile.b3 Q (m + 1)) Q a n c ⟨t6, 0, none⟩ ⟨t, 0, none⟩ i x w := by
      intro x hx
      unfold herdsmanref1_MadeTile.b9
      have s0 : Sep No w0 w.drew _ := s
      refine Sep.LdS s0 (i := 0) (j := 2) rfl rfl rfl ?_
      refine ref_Cost.spec hx fun r hr => ?_
      refine ⟨Sep.cell s0 (i := 0) (j := 2) rfl rfl rfl, ?_⟩
      refine Sep.Bx s0 fun b w1 s1 => ?_
      refine ⟨Sep.cell s1 (i := 1) (j := 2) rfl rfl rfl, ?_⟩
      have src : Src w1 (some ⟨b, 0, none⟩) 1 1 [.int .u8 r] := ⟨rfl, (fun u hu => by rw [List.mem_singleton.1 hu]; rfl), fun j u hj => by rw [add_flat, Nat.zero_add]; exact Sep.cell s1 (i := 0) rfl rfl hj⟩
      refine Sep.App tab_ok s1 (i := 2) (size := 1) (bytes := 1) rfl rfl rfl rfl rfl rfl (by decide) rfl src (by simp only [maxLen]; omega) (by omega) (fun e => by cases e) fun a1 c1 w2 s2 => ?_
      simp only [List.set_cons_zero, List.set_cons_succ] at s2
      have e : flat by8 ys ++ [.int .u8 r] = flat by8 (ys ++ [r]) := by rw [flat_append]; rfl
      rw [e] at s2
      have s2 := Sep.drop s2
      refine Sep.St s2 (i := 0) (j := 2) rfl rfl rfl fun w3 s3 => ?_
      simp only [List.set_cons_zero, List.set_cons_succ] at s3
      rw [wrap_i64 (n := (i : Int) + 1) (by omega) (by omega)]
      refine ih (i + 1) c1 a1 (ys ++ [r]) w3 (by omega) (by simp [hl]) (fun x hx => ?_) s3
      rcases List.mem_append.1 hx with hx | hx
      · exact hys x hx
      · rw [List.mem_singleton.1 hx]; exact hr
    by_cases hn0 : 0 < n
    · rw [decide_eq_true (by omega), cond_true]
      refine ⟨by omega, by omega, ?_⟩
      have d1 : 0 ≤ (i : Int) / (n : Int) := Int.ediv_nonneg (by omega) (by omega)
      have d2 : (i : Int) / (n : Int) ≤ i := Int.ediv_le_self _ (by omega)
      rw [Int.tdiv_eq_ediv_of_nonneg (by omega), wrap_i64 (n := (i : Int) / (n : Int)) (by omega) (by omega), wrap_i64 (n := (i : Int) / (n : Int) * 5) (by omega) (by omega), wrap_i64 (n := (i : Int) + (i : Int) / (n : Int) * 5) (by omega) (by omega), Int.tmod_eq_emod_of_nonneg (by omega)]
      have d3 := Int.emod_nonneg ((i : Int) + (i : Int) / (n : Int) * 5) (b := (n : Int)) (by omega)
      have d4 := Int.emod_lt_of_pos ((i : Int) + (i : Int) / (n : Int) * 5) (b := (n : Int)) (by omega)
      generalize ((i : Int) + (i : Int) / (n : Int) * 5) % (n : Int) = jj at d3 d4
      obtain ⟨j, rfl⟩ : ∃ j : Nat, jj = j := ⟨jj.toNat, by omega⟩
      have hA1 := hA.fr (sep_fr s)
      obtain ⟨ad, e, hc⟩ := rd_at hA1 (i := j) (by omega)
      refine ⟨by omega, by omega, ?_⟩
      rw [e]
      refine wA_some ?_
      refine LdI_cell hc ?_
      rw [← e]
      exact b9 _ (hcs _ (gi_mem (by rw [hA.1]; omega)))
    · rw [decide_eq_false (by omega), cond_false]
      exact b9 1 (by decide)
theorem ref_MadeTile.spec {w1 h1 : Int} {Q : Int → Int → Option Addr → Nat → Nat → World → Prop} (s : Sep F W w L) (hA : ArgRow w a n 1 by8 cs) (hcs : ∀ x ∈ cs, 0 ≤ x ∧ x < 256) (hn : n < 9223372036854775808)
    (h : ∀ tw th ra rn rc ys w', 1 ≤ tw ∧ tw ≤ 16 → 1 ≤ th ∧ th ≤ 16 → (ys.length : Int) = tw * th → rn = ys.length → (∀ x ∈ ys, 1 ≤ x ∧ x < 256) → Sep F W w' (rowA ra rn rc 5 1 (flat by8 ys) :: L) → Fr No w w' → Q tw th ra rn rc w') : herdsmanref1_MadeTile.call w1 h1 a n c w Q := by
  refine herdsmanref1_MadeTile.body _ _ _ _ _ _ _ ?_
  unfold herdsmanref1_MadeTile.sh
  refine Sep.Al (F := No) (W := w) (L := []) Sep.nil fun t6 w1' s1 => ?_
  rw [zc24] at s1
  refine herdsmanref1_Within.spec (by decide) (by decide) (by decide) ?_
  have r1 := within_range (n := w1) (lo := 1) (hi := 16) (by decide)
  generalize (1 + w1 % (16 - 1 + 1)) = tw at r1
  refine herdsmanref1_Within.spec (by decide) (by decide) (by decide) ?_
  have r2 := within_range (n := h1) (lo := 1) (hi := 16) (by decide)
  generalize (1 + h1 % (16 - 1 + 1)) = th at r2
  refine Sep.Al s1 fun t w2 s2 => ?_
  rw [zc24] at s2
  refine Sep.St s2 (i := 0) rfl rfl rfl fun w3 s => ?_
  refine Sep.St s (i := 0) rfl rfl rfl fun w4 s => ?_
  refine Sep.St s (i := 0) rfl rfl rfl fun w5 s5 => ?_
  simp only [List.set_cons_zero, List.set_cons_succ] at s5
  have s6 := Sep.perm (Sep.row_nil s5 5 1) (List.Perm.swap ..)
  have q1 : 1 * 1 ≤ tw * th := Int.mul_le_mul r1.1 r2.1 (by decide) (by omega)
  obtain ⟨m, hm⟩ : ∃ m : Nat, ((0 + m : Nat) : Int) = tw * th := ⟨(tw * th).toNat, by omega⟩
  refine ⟨m + 1, Made_loop hA hcs hn r1 r2 (fun ra rn rc ys w' k1 k2 k3 s' => ?_) m 0 0 none [] w5 hm rfl (by simp) s6⟩
  exact h tw th ra rn rc ys w' r1 r2 k1 k2 k3 (Sep.gain ‹Sep F W w L› s' (i := 0) rfl) (sep_fr s')
theorem ref_OwnTile.spec {tw th : Int} {Q : Int → Int → Option Addr → Nat → Nat → World → Prop} (s : Sep F W w L) (hA : ArgRow w a n 1 by8 cs) (hn : n ≤ 100000) (hac : a = none → c = 0)
    (h : ∀ ra rc w', Sep F W w' (rowA ra n rc 5 1 (flat by8 cs) :: L) → Fr No w w' → Q tw th ra n rc w') : herdsmanref1_OwnTile.call tw th a n c w Q := by
  refine herdsmanref1_OwnTile.body _ _ _ _ _ _ _ ?_
  unfold herdsmanref1_OwnTile.sh
  refine Sep.Bx (F := No) (W := w) (L := []) Sep.nil fun b1 w1 s1 => ?_
  refine Sep.Al s1 fun b2 w2 s2 => ?_
  rw [zc24] at s2
  refine Sep.Bx s2 fun b3 w3 s3 => ?_
  refine Sep.LdS s3 (i := 2) (j := 2) rfl rfl rfl ?_
  have src := ArgRow.src (e := 5) (hA.fr (sep_fr s3)) (Sep.nil) by8_len (fun x u hu => by rw [by8, List.mem_singleton] at hu; rw [hu]; rfl)
  have s4 := Sep.blk_row (n := 0) (size := 1) s3 (i := 0) rfl rfl (by decide) (by simp)
  simp only [List.set_cons_zero] at s4
  refine Sep.App tab_ok s4 (i := 0) (size := 1) (bytes := 1) rfl rfl rfl rfl rfl rfl (by decide) rfl src (by simp only [maxLen]; omega) (by omega) hac fun a1 c1 w5 s5 => ?_
  simp only [List.set_cons_zero, List.nil_append, Nat.zero_add] at s5 ⊢
  refine Sep.St s5 (i := 2) (j := 2) rfl rfl rfl fun w6 s6 => ?_
  simp only [List.set_cons_zero, List.set_cons_succ] at s6
  refine Sep.LdI s6 (i := 2) (j := 0) rfl rfl rfl ?_
  refine Sep.LdI s6 (i := 2) (j := 1) rfl rfl rfl ?_
  refine Sep.LdS s6 (i := 2) (j := 2) rfl rfl rfl ?_
  refine Sep.St s6 (i := 1) (j := 0) rfl rfl rfl fun w7 s7 => ?_
  refine Sep.St s7 (i := 1) (j := 1) rfl rfl rfl fun w8 s8 => ?_
  refine Sep.St s8 (i := 1) (j := 2) rfl rfl rfl fun w9 s9 => ?_
  simp only [List.set_cons_zero, List.set_cons_succ] at s9
  refine Sep.LdI s9 (i := 1) (j := 0) rfl rfl rfl ?_
  refine Sep.LdI s9 (i := 1) (j := 1) rfl rfl rfl ?_
  refine Sep.LdS s9 (i := 1) (j := 2) rfl rfl rfl ?_
  exact h a1 c1 w9 (Sep.gain s s9 (i := 0) rfl) (sep_fr s9)
end
end Go.Proofs.Ytbecldlnajlnnaa.S
