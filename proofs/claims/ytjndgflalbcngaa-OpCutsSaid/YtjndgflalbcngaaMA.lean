/- Maps made of numbers, sectors, tiles, runs: the document's own. -/
import Derived.Test.YtjndgflalbcngaaMP
import Derived.Test.YtjndgflalbcngaaSxN
import Derived.Test.YtjndgflalbcngaaOI
import Derived.Test.YtjndgflalbcngaaXF2
import Derived.Test.YtjndgflalbcngaaXF3
set_option linter.unusedVariables false
set_option linter.unusedSimpArgs false
namespace Go.Proofs.Ytjndgflalbcngaa.S
open Go.Sx
theorem ref_Cost.spec {w : World} {x : Int} {Q : Int → World → Prop} (hx : 0 ≤ x ∧ x < 256) (h : Q (costI x) w) : herdsmanref1_Cost.call x w Q := by
  refine herdsmanref1_Cost.body _ _ _ ?_
  unfold herdsmanref1_Cost.sh
  unfold costI at h
  refine ⟨by decide, ?_⟩
  rw [Int.tmod_eq_emod_of_nonneg hx.1]
  by_cases h7 : x % 8 = 7
  · rw [show (x % 8 == 7) = true by rw [beq_iff_eq]; exact h7, cond_true]
    rwa [if_pos h7] at h
  · rw [show (x % 8 == 7) = false by rw [beq_eq_false_iff_ne]; exact h7, cond_false]
    rw [if_neg h7] at h
    by_cases h1 : x < 160
    · rw [decide_eq_true h1, cond_true]
      rw [if_pos h1] at h
      refine ⟨by decide, ?_⟩
      rw [Int.tmod_eq_emod_of_nonneg hx.1, wrap_u8 (by omega) (by omega)]
      exact h
    · rw [decide_eq_false h1, cond_false]
      rwa [if_neg h1] at h
theorem zcMap : zc T 55 = [.int .i64 0, .int .i64 0, .slice none 0 0] := rfl
theorem zcTile : zc T 69 = [.int .i64 0, .int .i64 0, .slice none 0 0] := rfl
theorem zcOp : zc T 30 = [.int .i64 0, .int .i64 0, .int .i64 0, .slice none 0 0] := rfl
theorem zcAsk : zc T 59 = [.int .i64 0, .int .i64 0, .int .i64 0] := rfl
attribute [local irreducible] LdI LdB LdStr LdP LdS LdM LdV St Bx Al App Cpy MkS MkM EqK RunK RunU CallK SlK blkA rowA joinA mapA
theorem imin_eq (a b : Int) : imin a b = min a b := by unfold imin; split <;> omega
section
variable {F : Nat → Prop} {W w w0 : World} {L : List As} {a : Option Addr} {n c : Nat} {cs : List Int}
theorem rMay.spec {mw mh : Int} {Q : Bool → World → Prop} (hw : 1 ≤ mw ∧ mw ≤ 1024) (hh : 1 ≤ mh ∧ mh ≤ 1024) (h : Q true w) : herdsmanref1_May.call mw mh w Q := by
  refine herdsmanref1_May.body _ _ _ _ ?_
  unfold herdsmanref1_May.sh
  refine ref_In.spec ?_
  rw [decide_eq_true hw, cond_true]
  refine ref_In.spec ?_
  rw [decide_eq_true hh]
  exact h
theorem rSectors.spec {mw mh : Int} {Q : Int → Int → World → Prop} (hw : 1 ≤ mw ∧ mw ≤ 1024) (hh : 1 ≤ mh ∧ mh ≤ 1024) (h : Q (acr mw) (acr mh) w) : herdsmanref1_Sectors.call mw mh w Q := by
  refine herdsmanref1_Sectors.body _ _ _ _ ?_
  unfold herdsmanref1_Sectors.sh
  refine rMay.spec hw hh ?_
  rw [Bool.not_true, cond_false]
  refine ⟨by decide, by decide, ?_⟩
  simp (disch := omega) only [wrap_i64, Int.tdiv_eq_ediv_of_nonneg]
  rw [show mw + 16 - 1 = mw + 15 by omega, show mh + 16 - 1 = mh + 15 by omega]
  exact h
theorem rCount.spec {mw mh : Int} {Q : Int → World → Prop} (hw : 1 ≤ mw ∧ mw ≤ 1024) (hh : 1 ≤ mh ∧ mh ≤ 1024) (h : Q (cntS mw mh) w) : herdsmanref1_Count.call mw mh w Q := by
  refine herdsmanref1_Count.body _ _ _ _ ?_
  unfold herdsmanref1_Count.sh
  refine rSectors.spec hw hh ?_
  have := cntS_range hw hh
  unfold cntS at this h
  rw [wrap_i64 (by omega) (by omega)]
  exact h
theorem rSize.spec {mw mh s : Int} {Q : Int → Int → World → Prop} (hw : 1 ≤ mw ∧ mw ≤ 1024) (hh : 1 ≤ mh ∧ mh ≤ 1024) (hs : 0 ≤ s ∧ s < cntS mw mh) (h : ∀ w', Fr No w w' → Q (szW mw mh s) (szH mw mh s) w') : herdsmanref1_Size.call mw mh s w Q := by
  refine herdsmanref1_Size.body _ _ _ _ _ ?_
  unfold herdsmanref1_Size.sh
  have hc := cntS_range hw hh
  have hx := sec_xy hw hh hs
  have ha := acr_pos hw
  refine rCount.spec hw hh ?_
  rw [wrap_i64 (n := cntS mw mh - 1) (by omega) (by omega)]
  refine ref_In.spec ?_
  rw [decide_eq_true (by omega), Bool.not_true, cond_false]
  refine rSectors.spec hw hh ?_
  refine ⟨by omega, by omega, ?_⟩
  have := h w.drew (Fr.refl (w := w))
  unfold szW szH at this
  rw [Int.tmod_eq_emod_of_nonneg hs.1, Int.tdiv_eq_ediv_of_nonneg hs.1]
  simp (disch := omega) only [wrap_i64]
  rw [imin_eq, imin_eq]
  exact this
theorem rGlobal.spec {mw mh s l : Int} {Q : Int → World → Prop} (hw : 1 ≤ mw ∧ mw ≤ 1024) (hh : 1 ≤ mh ∧ mh ≤ 1024) (hs : 0 ≤ s ∧ s < cntS mw mh) (hl : 0 ≤ l ∧ l < szW mw mh s * szH mw mh s) (h : ∀ w', Fr No w w' → Q (glob mw mh s l) w') :
    herdsmanref1_Global.call mw mh s l w Q := by
  refine herdsmanref1_Global.body _ _ _ _ _ _ ?_
  unfold herdsmanref1_Global.sh
  have hx := sec_xy hw hh hs
  have ha := acr_pos hw
  have hz := sz_range hw hh hs
  have hg := glob_range hw hh hs hl
  have b : szW mw mh s * szH mw mh s ≤ 16 * 16 := Int.mul_le_mul hz.1.2 hz.2.2 (by omega) (by decide)
  refine rSize.spec hw hh hs fun w f => ?_
  rw [wrap_i64 (n := szW mw mh s * szH mw mh s) (by omega) (by omega), wrap_i64 (n := szW mw mh s * szH mw mh s - 1) (by omega) (by omega)]
  refine ref_In.spec ?_
  rw [decide_eq_true (by omega), Bool.not_true, cond_false]
  refine rSectors.spec hw hh ?_
  refine ⟨by omega, by omega, by omega, by omega, ?_⟩
  have := h w.drew f
  have e1 : 0 ≤ l / szW mw mh s ∧ l / szW mw mh s < szH mw mh s := ⟨Int.ediv_nonneg hl.1 (by omega), Int.ediv_lt_of_lt_mul (by omega) (by rw [Int.mul_comm]; exact hl.2)⟩
  have e2 := Int.emod_nonneg l (b := szW mw mh s) (by omega)
  have e3 := Int.emod_lt_of_pos l (b := szW mw mh s) (by omega)
  unfold glob at this
  rw [Int.tmod_eq_emod_of_nonneg hs.1, Int.tdiv_eq_ediv_of_nonneg hs.1, Int.tmod_eq_emod_of_nonneg hl.1, Int.tdiv_eq_ediv_of_nonneg hl.1]
  have y0 : 0 ≤ 16 * (s / acr mw) + l / szW mw mh s ∧ 16 * (s / acr mw) + l / szW mw mh s ≤ 1040 := by omega
  have m1 : 0 ≤ (16 * (s / acr mw) + l / szW mw mh s) * mw := Int.mul_nonneg y0.1 (by omega)
  have m2 : (16 * (s / acr mw) + l / szW mw mh s) * mw ≤ 1040 * 1024 := Int.mul_le_mul y0.2 hw.2 (by omega) (by decide)
  simp (disch := omega) only [wrap_i64]
  exact this
theorem rMade_loop {mw mh : Int} {t6 t : Nat} {Q : Int → Int → Option Addr → Nat → Nat → World → Prop} (hA : Sl w0 a n c 1 by8 cs) (hcs : Rng cs) (hn : n < 9223372036854775808) (hw : 1 ≤ mw ∧ mw ≤ 40) (hh : 1 ≤ mh ∧ mh ≤ 40)
    (h : ∀ ra rn rc w', Sep No w0 w' [rowA ra rn rc 5 1 (flat by8 (madeC (mw * mh).toNat cs))] → Q mw mh ra rn rc w') :
    ∀ (m i rc : Nat) (ra : Option Addr) (w : World), ((i + m : Nat) : Int) = mw * mh →
      Sep No w0 w [blkA t 55 [.int .i64 mw, .int .i64 mh, .slice ra i rc], rowA ra i rc 5 1 (flat by8 (madeC i cs)), blkA t6 55 [.int .i64 0, .int .i64 0, .slice none 0 0]] → herdsmanref1_Made.b3 Q (m + 1) a n c ⟨t6, 0, none⟩ ⟨t, 0, none⟩ i w := by
  have q2 : mw * mh ≤ 40 * 40 := Int.mul_le_mul hw.2 hh.2 (by omega) (by decide)
  have hlen := hA.len
  intro m
  induction m with
  | zero =>
    intro i rc ra w hi s
    show herdsmanref1_Made.s3 Q (herdsmanref1_Made.b3 Q 0) _ _ _ _ _ _ _
    unfold herdsmanref1_Made.s3
    refine Sep.LdI s (i := 0) (j := 0) rfl rfl rfl ?_
    refine Sep.LdI s (i := 0) (j := 1) rfl rfl rfl ?_
    rw [wrap_i64 (n := mw * mh) (by omega) (by omega), decide_eq_false (by omega), cond_false]
    refine Sep.LdI s (i := 0) (j := 0) rfl rfl rfl ?_
    refine Sep.LdI s (i := 0) (j := 1) rfl rfl rfl ?_
    refine Sep.LdS s (i := 0) (j := 2) rfl rfl rfl ?_
    refine Sep.St s (i := 2) rfl rfl rfl fun w1 s => ?_
    refine Sep.St s (i := 2) rfl rfl rfl fun w2 s => ?_
    refine Sep.St s (i := 2) rfl rfl rfl fun w3 s => ?_
    simp only [List.set_cons_zero, List.set_cons_succ] at s
    refine Sep.LdI s (i := 2) (j := 0) rfl rfl rfl ?_
    refine Sep.LdI s (i := 2) (j := 1) rfl rfl rfl ?_
    refine Sep.LdS s (i := 2) (j := 2) rfl rfl rfl ?_
    have e : i = (mw * mh).toNat := by omega
    rw [e] at s ⊢
    exact h _ _ _ w3 (Sep.sub s (.cons _ (.cons_cons _ (.cons _ .slnil))))
  | succ m ih =>
    intro i rc ra w hi s
    show herdsmanref1_Made.s3 Q (herdsmanref1_Made.b3 Q (m + 1)) _ _ _ _ _ _ _
    unfold herdsmanref1_Made.s3
    refine Sep.LdI s (i := 0) (j := 0) rfl rfl rfl ?_
    refine Sep.LdI s (i := 0) (j := 1) rfl rfl rfl ?_
    rw [wrap_i64 (n := mw * mh) (by omega) (by omega), decide_eq_true (by omega), cond_true]
    have b9 : ∀ x : Int, 0 ≤ x ∧ x < 256 → costI x = madeAt cs i → herdsmanref1_Made.b9 (herdsmanref1_Made.b3 Q (m + 1)) Q a n c ⟨t6, 0, none⟩ ⟨t, 0, none⟩ i x w := by
      intro x hx hm
      unfold herdsmanref1_Made.b9
      have s0 : Sep No w0 w.drew _ := s
      refine Sep.LdS s0 (i := 0) (j := 2) rfl rfl rfl ?_
      refine ref_Cost.spec hx ?_
      rw [hm]
      refine ⟨Sep.cell s0 (i := 0) (j := 2) rfl rfl rfl, ?_⟩
      refine Sep.Bx s0 fun b w1 s1 => ?_
      refine ⟨Sep.cell s1 (i := 1) (j := 2) rfl rfl rfl, ?_⟩
      have src : Src w1 (some ⟨b, 0, none⟩) 1 1 [.int .u8 (madeAt cs i)] := ⟨rfl, (fun u hu => by rw [List.mem_singleton.1 hu]; rfl), fun j u hj => by rw [add_flat, Nat.zero_add]; exact Sep.cell s1 (i := 0) rfl rfl hj⟩
      refine Sep.App tab_ok s1 (i := 2) (size := 1) (bytes := 1) rfl rfl rfl rfl rfl rfl (by decide) rfl src (by simp only [maxLen]; omega) (by omega) (fun e => by cases e) fun a1 c1 w2 s2 => ?_
      simp only [List.set_cons_zero, List.set_cons_succ] at s2
      have e : flat by8 (madeC i cs) ++ [.int .u8 (madeAt cs i)] = flat by8 (madeC (i + 1) cs) := by unfold madeC; rw [List.range_succ, List.map_append, flat_append]; rfl
      rw [e] at s2
      have s2 := Sep.drop s2
      refine Sep.St s2 (i := 0) (j := 2) rfl rfl rfl fun w3 s3 => ?_
      simp only [List.set_cons_zero, List.set_cons_succ] at s3
      rw [wrap_i64 (n := (i : Int) + 1) (by omega) (by omega)]
      exact ih (i + 1) c1 a1 w3 (by omega) s3
    by_cases hn0 : 0 < n
    · rw [decide_eq_true (by omega), cond_true]
      refine ⟨by omega, by omega, ?_⟩
      have d1 : 0 ≤ (i : Int) / (n : Int) := Int.ediv_nonneg (by omega) (by omega)
      have d2 : (i : Int) / (n : Int) ≤ i := Int.ediv_le_self _ (by omega)
      rw [Int.tdiv_eq_ediv_of_nonneg (by omega), wrap_i64 (n := (i : Int) / (n : Int)) (by omega) (by omega), wrap_i64 (n := (i : Int) / (n : Int) * 5) (by omega) (by omega), wrap_i64 (n := (i : Int) + (i : Int) / (n : Int) * 5) (by omega) (by omega), Int.tmod_eq_emod_of_nonneg (by omega)]
      have ej : ((i : Int) + (i : Int) / (n : Int) * 5) % (n : Int) = (((i + i / n * 5) % n : Nat) : Int) := by push_cast; rfl
      rw [ej]
      have hj : (i + i / n * 5) % n < n := Nat.mod_lt _ hn0
      refine Sl.rd8 (hA.fr (sep_fr s)) rfl hj ?_
      refine b9 _ (hcs _ (gi_mem (by omega))) ?_
      unfold madeAt
      rw [if_neg (fun e => by rw [e] at hlen; simp at hlen; omega), hlen]
    · rw [decide_eq_false (by omega), cond_false]
      refine b9 1 (by decide) ?_
      unfold madeAt
      rw [if_pos (List.eq_nil_of_length_eq_zero (by omega))]
theorem rMade.spec {w1 h1 : Int} {Q : Int → Int → Option Addr → Nat → Nat → World → Prop} (s : Sep F W w0 L) (hA : Sl w0 a n c 1 by8 cs) (hcs : Rng cs) (hn : n < 9223372036854775808)
    (h : ∀ ra rn rc w', Sep F W w' (rowA ra rn rc 5 1 (flat by8 (madeP w1 h1 cs).cs) :: L) → Fr No w0 w' → Q (madeP w1 h1 cs).w (madeP w1 h1 cs).h ra rn rc w') : herdsmanref1_Made.call w1 h1 a n c w0 Q := by
  refine herdsmanref1_Made.body _ _ _ _ _ _ _ ?_
  unfold herdsmanref1_Made.sh
  refine Sep.Al (F := No) (W := w0) (L := []) Sep.nil fun t6 w1' s1 => ?_
  rw [zcMap] at s1
  refine herdsmanref1_Within.spec (by decide) (by decide) (by decide) ?_
  have r1 := wiI_range (n := w1) (lo := 1) (hi := 40) (by decide)
  refine herdsmanref1_Within.spec (by decide) (by decide) (by decide) ?_
  have r2 := wiI_range (n := h1) (lo := 1) (hi := 40) (by decide)
  refine Sep.Al s1 fun t w2 s2 => ?_
  rw [zcMap] at s2
  refine Sep.St s2 (i := 0) rfl rfl rfl fun w3 s => ?_
  refine Sep.St s (i := 0) rfl rfl rfl fun w4 s => ?_
  refine Sep.St s (i := 0) rfl rfl rfl fun w5 s5 => ?_
  simp only [List.set_cons_zero, List.set_cons_succ] at s5
  have s6 := Sep.perm (Sep.row_nil s5 5 1) (List.Perm.swap ..)
  have q1 : 1 * 1 ≤ wiI w1 1 40 * wiI h1 1 40 := Int.mul_le_mul r1.1 r2.1 (by decide) (by omega)
  refine ⟨(wiI w1 1 40 * wiI h1 1 40).toNat + 1, rMade_loop (mw := wiI w1 1 40) (mh := wiI h1 1 40) hA hcs hn r1 r2 (fun ra rn rc w' s' => ?_) _ 0 0 none w5 (by omega) s6⟩
  exact h ra rn rc w' (Sep.gain ‹Sep F W w0 L› s' (i := 0) rfl) (sep_fr s')
theorem rTileOf.spec {m : MapP} {si : Nat} {Q : Int → Int → Option Addr → Nat → Nat → World → Prop} (s0 : Sep F W w0 L) (hA : Sl w0 a n c 1 by8 m.cs) (hm : MayM m) (hs : (si : Int) < cntS m.w m.h)
    (h : ∀ ra rn rc w', Sep F W w' (rowA ra rn rc 5 1 (flat by8 (tileP m si)) :: L) → Fr No w0 w' → Q (szW m.w m.h si) (szH m.w m.h si) ra rn rc w') : herdsmanref1_TileOf.call m.w m.h a n c si w0 Q := by
  refine herdsmanref1_TileOf.body _ _ _ _ _ _ _ _ ?_
  unfold herdsmanref1_TileOf.sh
  have hsr : 0 ≤ (si : Int) ∧ (si : Int) < cntS m.w m.h := ⟨by omega, hs⟩
  have hz := sz_range hm.w hm.h hsr
  have b1 : 1 * 1 ≤ szW m.w m.h si * szH m.w m.h si := Int.mul_le_mul hz.1.1 hz.2.1 (by decide) (by omega)
  have b2 : szW m.w m.h si * szH m.w m.h si ≤ 16 * 16 := Int.mul_le_mul hz.1.2 hz.2.2 (by omega) (by decide)
  have hlen := hA.len
  have hml := hm.len
  have s := Sep.nil (F := No) (w := w0)
  refine Sep.Bx s fun mb w s => ?_
  refine Sep.Al s fun p4 w s => ?_
  rw [zcTile] at s
  refine Sep.LdI s (i := 1) rfl rfl rfl ?_
  refine Sep.LdI s (i := 1) rfl rfl rfl ?_
  refine rSize.spec hm.w hm.h hsr fun w f => ?_
  have s := Sep.call s f
  refine Sep.Al s fun t w s => ?_
  rw [zcTile] at s
  refine Sep.St s (i := 0) rfl rfl rfl fun w s => ?_
  refine Sep.St s (i := 0) rfl rfl rfl fun w s => ?_
  refine Sep.St s (i := 0) rfl rfl rfl fun w s => ?_
  simp only [List.set_cons_zero, List.set_cons_succ] at s
  have loop : ∀ (k i rc : Nat) (ra : Option Addr) (w : World), ((i + k : Nat) : Int) = szW m.w m.h si * szH m.w m.h si →
      Sep No w0 w [rowA ra i rc 5 1 (flat by8 ((List.range i).map fun l : Nat => gi m.cs (glob m.w m.h si l).toNat)), blkA t 69 [.int .i64 (szW m.w m.h si), .int .i64 (szH m.w m.h si), .slice ra i rc], blkA p4 69 [.int .i64 0, .int .i64 0, .slice none 0 0], blkA mb 55 [.int .i64 m.w, .int .i64 m.h, .slice a n c]] →
      herdsmanref1_TileOf.b4 Q (k + 1) si ⟨mb, 0, none⟩ ⟨p4, 0, none⟩ (szW m.w m.h si) (szH m.w m.h si) ⟨t, 0, none⟩ i w := by
    intro k
    induction k with
    | zero =>
      intro i rc ra w hi s
      show herdsmanref1_TileOf.s4 Q (herdsmanref1_TileOf.b4 Q 0) _ _ _ _ _ _ _ _
      unfold herdsmanref1_TileOf.s4
      rw [wrap_i64 (n := szW m.w m.h si * szH m.w m.h si) (by omega) (by omega), decide_eq_false (by omega), cond_false]
      repeat' first
        | refine Sep.LdI s (i := 0) rfl rfl rfl ?_
        | refine Sep.LdS s (i := 0) rfl rfl rfl ?_
        | refine Sep.LdB s (i := 0) rfl rfl rfl ?_
        | refine Sep.LdP s (i := 0) rfl rfl rfl ?_
        | refine And.intro (Sep.cell s (i := 0) rfl rfl rfl) ?_
        | refine Sep.LdI s (i := 1) rfl rfl rfl ?_
        | refine Sep.LdS s (i := 1) rfl rfl rfl ?_
        | refine Sep.LdB s (i := 1) rfl rfl rfl ?_
        | refine Sep.LdP s (i := 1) rfl rfl rfl ?_
        | refine And.intro (Sep.cell s (i := 1) rfl rfl rfl) ?_
        | refine Sep.LdI s (i := 2) rfl rfl rfl ?_
        | refine Sep.LdS s (i := 2) rfl rfl rfl ?_
        | refine Sep.LdB s (i := 2) rfl rfl rfl ?_
        | refine Sep.LdP s (i := 2) rfl rfl rfl ?_
        | refine And.intro (Sep.cell s (i := 2) rfl rfl rfl) ?_
        | (refine Sep.St s (i := 0) rfl rfl rfl fun w s => ?_; simp only [List.set_cons_zero, List.set_cons_succ] at s)
        | (refine Sep.St s (i := 1) rfl rfl rfl fun w s => ?_; simp only [List.set_cons_zero, List.set_cons_succ] at s)
        | (refine Sep.St s (i := 2) rfl rfl rfl fun w s => ?_; simp only [List.set_cons_zero, List.set_cons_succ] at s)
        | refine Sep.Bx s fun b w s => ?_
        | (refine Sep.Al s fun b w s => ?_; simp only [zcMap, zcTile, zcOp, zcAsk] at s)
        | (replace s := Sep.drew s; first
          | refine Sep.LdI s (i := 0) rfl rfl rfl ?_
          | refine Sep.LdS s (i := 0) rfl rfl rfl ?_
          | refine Sep.LdB s (i := 0) rfl rfl rfl ?_
          | refine Sep.LdP s (i := 0) rfl rfl rfl ?_
          | refine And.intro (Sep.cell s (i := 0) rfl rfl rfl) ?_
          | refine Sep.LdI s (i := 1) rfl rfl rfl ?_
          | refine Sep.LdS s (i := 1) rfl rfl rfl ?_
          | refine Sep.LdB s (i := 1) rfl rfl rfl ?_
          | refine Sep.LdP s (i := 1) rfl rfl rfl ?_
          | refine And.intro (Sep.cell s (i := 1) rfl rfl rfl) ?_
          | refine Sep.LdI s (i := 2) rfl rfl rfl ?_
          | refine Sep.LdS s (i := 2) rfl rfl rfl ?_
          | refine Sep.LdB s (i := 2) rfl rfl rfl ?_
          | refine Sep.LdP s (i := 2) rfl rfl rfl ?_
          | refine And.intro (Sep.cell s (i := 2) rfl rfl rfl) ?_
          | (refine Sep.St s (i := 0) rfl rfl rfl fun w s => ?_; simp only [List.set_cons_zero, List.set_cons_succ] at s)
          | (refine Sep.St s (i := 1) rfl rfl rfl fun w s => ?_; simp only [List.set_cons_zero, List.set_cons_succ] at s)
          | (refine Sep.St s (i := 2) rfl rfl rfl fun w s => ?_; simp only [List.set_cons_zero, List.set_cons_succ] at s)
          | refine Sep.Bx s fun b w s => ?_
          | (refine Sep.Al s fun b w s => ?_; simp only [zcMap, zcTile, zcOp, zcAsk] at s))
      have e : i = (szW m.w m.h si * szH m.w m.h si).toNat := by omega
      have e2 : ((List.range i).map fun l : Nat => gi m.cs (glob m.w m.h si l).toNat) = tileP m si := by unfold tileP; rw [e]
      rw [e2] at s
      exact h _ _ _ _ (Sep.gain s0 s (i := 0) rfl) (sep_fr s)
    | succ k ih =>
      intro i rc ra w hi s
      show herdsmanref1_TileOf.s4 Q (herdsmanref1_TileOf.b4 Q (k + 1)) _ _ _ _ _ _ _ _
      unfold herdsmanref1_TileOf.s4
      rw [wrap_i64 (n := szW m.w m.h si * szH m.w m.h si) (by omega) (by omega), decide_eq_true (by omega), cond_true]
      have s := Sep.drew s
      have hl : 0 ≤ (i : Int) ∧ (i : Int) < szW m.w m.h si * szH m.w m.h si := by omega
      have hg := glob_range hm.w hm.h hsr hl
      repeat' first
        | refine Sep.LdI s (i := 0) rfl rfl rfl ?_
        | refine Sep.LdS s (i := 0) rfl rfl rfl ?_
        | refine Sep.LdB s (i := 0) rfl rfl rfl ?_
        | refine Sep.LdP s (i := 0) rfl rfl rfl ?_
        | refine And.intro (Sep.cell s (i := 0) rfl rfl rfl) ?_
        | refine Sep.LdI s (i := 1) rfl rfl rfl ?_
        | refine Sep.LdS s (i := 1) rfl rfl rfl ?_
        | refine Sep.LdB s (i := 1) rfl rfl rfl ?_
        | refine Sep.LdP s (i := 1) rfl rfl rfl ?_
        | refine And.intro (Sep.cell s (i := 1) rfl rfl rfl) ?_
        | refine Sep.LdI s (i := 2) rfl rfl rfl ?_
        | refine Sep.LdS s (i := 2) rfl rfl rfl ?_
        | refine Sep.LdB s (i := 2) rfl rfl rfl ?_
        | refine Sep.LdP s (i := 2) rfl rfl rfl ?_
        | refine And.intro (Sep.cell s (i := 2) rfl rfl rfl) ?_
        | refine Sep.LdI s (i := 3) rfl rfl rfl ?_
        | refine Sep.LdS s (i := 3) rfl rfl rfl ?_
        | refine Sep.LdB s (i := 3) rfl rfl rfl ?_
        | refine Sep.LdP s (i := 3) rfl rfl rfl ?_
        | refine And.intro (Sep.cell s (i := 3) rfl rfl rfl) ?_
        | (replace s := Sep.drew s; first
          | refine Sep.LdI s (i := 0) rfl rfl rfl ?_
          | refine Sep.LdS s (i := 0) rfl rfl rfl ?_
          | refine Sep.LdB s (i := 0) rfl rfl rfl ?_
          | refine Sep.LdP s (i := 0) rfl rfl rfl ?_
          | refine And.intro (Sep.cell s (i := 0) rfl rfl rfl) ?_
          | refine Sep.LdI s (i := 1) rfl rfl rfl ?_
          | refine Sep.LdS s (i := 1) rfl rfl rfl ?_
          | refine Sep.LdB s (i := 1) rfl rfl rfl ?_
          | refine Sep.LdP s (i := 1) rfl rfl rfl ?_
          | refine And.intro (Sep.cell s (i := 1) rfl rfl rfl) ?_
          | refine Sep.LdI s (i := 2) rfl rfl rfl ?_
          | refine Sep.LdS s (i := 2) rfl rfl rfl ?_
          | refine Sep.LdB s (i := 2) rfl rfl rfl ?_
          | refine Sep.LdP s (i := 2) rfl rfl rfl ?_
          | refine And.intro (Sep.cell s (i := 2) rfl rfl rfl) ?_
          | refine Sep.LdI s (i := 3) rfl rfl rfl ?_
          | refine Sep.LdS s (i := 3) rfl rfl rfl ?_
          | refine Sep.LdB s (i := 3) rfl rfl rfl ?_
          | refine Sep.LdP s (i := 3) rfl rfl rfl ?_
          | refine And.intro (Sep.cell s (i := 3) rfl rfl rfl) ?_)
      refine rGlobal.spec hm.w hm.h hsr hl fun w f => ?_
      have s := Sep.call s f
      repeat' first
        | refine Sep.LdI s (i := 0) rfl rfl rfl ?_
        | refine Sep.LdS s (i := 0) rfl rfl rfl ?_
        | refine Sep.LdB s (i := 0) rfl rfl rfl ?_
        | refine Sep.LdP s (i := 0) rfl rfl rfl ?_
        | refine And.intro (Sep.cell s (i := 0) rfl rfl rfl) ?_
        | refine Sep.LdI s (i := 1) rfl rfl rfl ?_
        | refine Sep.LdS s (i := 1) rfl rfl rfl ?_
        | refine Sep.LdB s (i := 1) rfl rfl rfl ?_
        | refine Sep.LdP s (i := 1) rfl rfl rfl ?_
        | refine And.intro (Sep.cell s (i := 1) rfl rfl rfl) ?_
        | refine Sep.LdI s (i := 2) rfl rfl rfl ?_
        | refine Sep.LdS s (i := 2) rfl rfl rfl ?_
        | refine Sep.LdB s (i := 2) rfl rfl rfl ?_
        | refine Sep.LdP s (i := 2) rfl rfl rfl ?_
        | refine And.intro (Sep.cell s (i := 2) rfl rfl rfl) ?_
        | refine Sep.LdI s (i := 3) rfl rfl rfl ?_
        | refine Sep.LdS s (i := 3) rfl rfl rfl ?_
        | refine Sep.LdB s (i := 3) rfl rfl rfl ?_
        | refine Sep.LdP s (i := 3) rfl rfl rfl ?_
        | refine And.intro (Sep.cell s (i := 3) rfl rfl rfl) ?_
        | (replace s := Sep.drew s; first
          | refine Sep.LdI s (i := 0) rfl rfl rfl ?_
          | refine Sep.LdS s (i := 0) rfl rfl rfl ?_
          | refine Sep.LdB s (i := 0) rfl rfl rfl ?_
          | refine Sep.LdP s (i := 0) rfl rfl rfl ?_
          | refine And.intro (Sep.cell s (i := 0) rfl rfl rfl) ?_
          | refine Sep.LdI s (i := 1) rfl rfl rfl ?_
          | refine Sep.LdS s (i := 1) rfl rfl rfl ?_
          | refine Sep.LdB s (i := 1) rfl rfl rfl ?_
          | refine Sep.LdP s (i := 1) rfl rfl rfl ?_
          | refine And.intro (Sep.cell s (i := 1) rfl rfl rfl) ?_
          | refine Sep.LdI s (i := 2) rfl rfl rfl ?_
          | refine Sep.LdS s (i := 2) rfl rfl rfl ?_
          | refine Sep.LdB s (i := 2) rfl rfl rfl ?_
          | refine Sep.LdP s (i := 2) rfl rfl rfl ?_
          | refine And.intro (Sep.cell s (i := 2) rfl rfl rfl) ?_
          | refine Sep.LdI s (i := 3) rfl rfl rfl ?_
          | refine Sep.LdS s (i := 3) rfl rfl rfl ?_
          | refine Sep.LdB s (i := 3) rfl rfl rfl ?_
          | refine Sep.LdP s (i := 3) rfl rfl rfl ?_
          | refine And.intro (Sep.cell s (i := 3) rfl rfl rfl) ?_)
      obtain ⟨g, hgk⟩ : ∃ g : Nat, glob m.w m.h si i = g := ⟨(glob m.w m.h si i).toNat, by omega⟩
      have heq : gi m.cs g = gi m.cs (glob m.w m.h si i).toNat := by rw [hgk, Int.toNat_natCast]
      rw [hgk]
      refine Sl.rd8 (hA.fr (sep_fr s)) rfl (by omega) ?_
      refine Sep.Bx s fun b w1 s1 => ?_
      refine ⟨Sep.cell s1 (i := 2) rfl rfl rfl, ?_⟩
      have src : Src w1 (some ⟨b, 0, none⟩) 1 1 [.int .u8 (gi m.cs g)] := ⟨rfl, (fun u hu => by rw [List.mem_singleton.1 hu]; rfl), fun j u hj => by rw [add_flat, Nat.zero_add]; exact Sep.cell s1 (i := 0) rfl rfl hj⟩
      refine Sep.App tab_ok s1 (i := 1) (size := 1) (bytes := 1) rfl rfl rfl rfl rfl rfl (by decide) rfl src (by simp only [maxLen]; omega) (by omega) (fun e => by cases e) fun a1 c1 w2 s2 => ?_
      simp only [List.set_cons_zero, List.set_cons_succ] at s2
      have e : flat by8 ((List.range i).map fun l : Nat => gi m.cs (glob m.w m.h si l).toNat) ++ [.int .u8 (gi m.cs g)] = flat by8 ((List.range (i + 1)).map fun l : Nat => gi m.cs (glob m.w m.h si l).toNat) := by
        rw [heq, List.range_succ, List.map_append, flat_append]; rfl
      rw [e] at s2
      refine Sep.St (Sep.drop s2) (i := 1) (j := 2) rfl rfl rfl fun w3 s3 => ?_
      simp only [List.set_cons_zero, List.set_cons_succ] at s3
      rw [wrap_i64 (n := (i : Int) + 1) (by omega) (by omega)]
      exact ih (i + 1) c1 a1 w3 (by omega) s3
  exact ⟨(szW m.w m.h si * szH m.w m.h si).toNat + 1, loop _ 0 0 none w (by omega) (Sep.row_nil s 5 1)⟩
theorem rRuns.spec {Q : Option Addr → Nat → Nat → World → Prop} (s0 : Sep F W w0 L) (hA : Sl w0 a n c 1 by8 cs) (hcs : Rng cs) (hn : n ≤ 100000)
    (h : ∀ ra rn rc w', Sep F W w' (rowA ra rn rc 5 1 (flat by8 (runsP cs)) :: L) → Fr No w0 w' → Q ra rn rc w') : herdsmanref1_runs.call a n c w0 Q := by
  refine herdsmanref1_runs.body _ _ _ _ _ ?_
  unfold herdsmanref1_runs.sh
  have hlen := hA.len
  refine Sep.Bx (Sep.nil (F := No) (w := w0)) fun b w s => ?_
  have s := byte1 s
  -- one run
  have inner : ∀ (P3 : Option Addr → Nat → Nat → Option Addr → Nat → Nat → Int → World → Prop) (x : Int) (i : Nat) (oa : Option Addr) (on oc : Nat) (out : List Int), cs[i]? = some x → on ≤ 1000000 →
      (∀ a' c' w', Sep No w0 w' [rowA a' (on + 2) c' 5 1 (flat by8 (out ++ [((lead x (cs.drop (i + 1)) : Nat) : Int) % 256, x]))] → P3 a n c a' (on + 2) c' ((i + 1 + lead x (cs.drop (i + 1)) : Nat) : Int) w') →
      ∀ (k r : Nat) (w : World), i + 1 + r + k = n → lead x (cs.drop (i + 1)) = r + lead x (cs.drop (i + 1 + r)) → Sep No w0 w [rowA oa on oc 5 1 (flat by8 out)] → herdsmanref1_runs.b5 P3 Q (k + 1) a n c oa on oc i ((r + 1 : Nat) : Int) w := by
    intro P3 x i oa on oc out hx hon next
    have hix : i < n := by have := (List.getElem?_eq_some_iff.1 hx).1; omega
    have hgx : gi cs i = x := by rw [gi_get (by omega)] at hx; exact Option.some.inj hx
    -- the run is over
    have over : ∀ (r : Nat) (w : World), i + 1 + r ≤ n → lead x (cs.drop (i + 1)) = r → Sep No w0 w [rowA oa on oc 5 1 (flat by8 out)] → herdsmanref1_runs.b7 P3 Q a n c oa on oc i ((r + 1 : Nat) : Int) w := by
      intro r w hr hl s
      unfold herdsmanref1_runs.b7
      refine Sl.rd8 (hA.fr (sep_fr s)) rfl hix ?_
      rw [hgx, wrap_i64 (n := ((r + 1 : Nat) : Int) - 1) (by omega) (by omega), wrap_i64 (n := (i : Int) + ((r + 1 : Nat) : Int)) (by omega) (by omega), wrap_u8']
      refine Sep.Bx s fun b w s => ?_
      have e0 : ((r + 1 : Nat) : Int) - 1 = (r : Int) := by omega
      rw [e0] at s
      have src : Src w (some ⟨b, 0, none⟩) 2 1 [.int .u8 ((r : Int) % 256), .int .u8 x] := ⟨rfl, (fun u hu => by simp only [List.mem_cons, List.not_mem_nil, or_false] at hu; rcases hu with rfl | rfl <;> rfl), fun j u hj => by rw [add_flat, Nat.zero_add]; exact Sep.cell s (i := 0) rfl rfl hj⟩
      refine Sep.App tab_ok s (i := 1) (size := 1) (bytes := 1) rfl rfl rfl rfl rfl rfl (by decide) rfl src (by simp only [maxLen]; omega) (by omega) (fun e => by cases e) fun a1 c1 w1 s1 => ?_
      simp only [List.set_cons_zero, List.set_cons_succ] at s1
      have e : flat by8 out ++ [.int .u8 ((r : Int) % 256), .int .u8 x] = flat by8 (out ++ [(r : Int) % 256, x]) := by rw [flat_append]; rfl
      rw [e] at s1
      rw [hl] at next
      have := next a1 c1 w1 (Sep.drop s1)
      rwa [show ((i + 1 + r : Nat) : Int) = (i : Int) + ((r + 1 : Nat) : Int) by push_cast; omega] at this
    intro k
    induction k with
    | zero =>
      intro r w hr hl s
      show herdsmanref1_runs.s5 P3 Q (herdsmanref1_runs.b5 P3 Q 0) _ _ _ _ _ _ _ _ _
      unfold herdsmanref1_runs.s5
      rw [wrap_i64 (n := (i : Int) + ((r + 1 : Nat) : Int)) (by omega) (by omega), decide_eq_false (by omega), cond_false]
      have e : cs.drop (i + 1 + r) = [] := List.drop_eq_nil_of_le (by omega)
      rw [e] at hl
      first | exact over r w (by omega) hl s | exact over r _ (by omega) hl (Sep.drew s)
    | succ k ih =>
      intro r w hr hl s
      show herdsmanref1_runs.s5 P3 Q (herdsmanref1_runs.b5 P3 Q (k + 1)) _ _ _ _ _ _ _ _ _
      unfold herdsmanref1_runs.s5
      have ei : (i : Int) + ((r + 1 : Nat) : Int) = ((i + 1 + r : Nat) : Int) := by push_cast; omega
      rw [wrap_i64 (n := (i : Int) + ((r + 1 : Nat) : Int)) (by omega) (by omega), decide_eq_true (by omega), cond_true, ei]
      have s := Sep.drew s
      have hB := hA.fr (sep_fr s)
      refine Sl.rd8 hB rfl (by omega) ?_
      refine Sl.rd8 hB rfl hix ?_
      have hd : cs.drop (i + 1 + r) = gi cs (i + 1 + r) :: cs.drop (i + 1 + r + 1) := by
        rw [List.drop_eq_getElem_cons (by omega)]
        congr 1
        have := gi_get (l := cs) (i := i + 1 + r) (by omega)
        rw [List.getElem?_eq_getElem (by omega)] at this
        exact Option.some.inj this
      rw [hd, lead] at hl
      rw [hgx]
      by_cases he : gi cs (i + 1 + r) = x
      · rw [show (gi cs (i + 1 + r) == x) = true by rw [beq_iff_eq]; exact he, cond_true, wrap_i64 (n := ((r + 1 : Nat) : Int) + 1) (by omega) (by omega)]
        rw [if_pos he] at hl
        have := ih (r + 1) w.drew (by omega) (by rw [show i + 1 + (r + 1) = i + 1 + r + 1 by omega]; omega) s
        exact this
      · rw [show (gi cs (i + 1 + r) == x) = false by rw [beq_eq_false_iff_ne]; exact he, cond_false]
        rw [if_neg he] at hl
        exact over r _ (by omega) hl s
  have outer : ∀ (k i : Nat) (oa : Option Addr) (on oc : Nat) (out : List Int) (w : World), n - i ≤ k → i ≤ n → on ≤ 1 + 2 * i → out ++ runsF (n - i) (cs.drop i) = runsP cs → Sep No w0 w [rowA oa on oc 5 1 (flat by8 out)] → herdsmanref1_runs.b3 Q (k + 1) a n c oa on oc i w := by
    have stop : ∀ R (oa : Option Addr) (on oc : Nat) (out : List Int) (w : World), out ++ runsF (n - n) (cs.drop n) = runsP cs → Sep No w0 w [rowA oa on oc 5 1 (flat by8 out)] → herdsmanref1_runs.s3 Q R a n c oa on oc n w := by
      intro R oa on oc out w he s
      unfold herdsmanref1_runs.s3
      rw [decide_eq_false (by omega), cond_false]
      rw [List.drop_eq_nil_of_le (by omega), Nat.sub_self, runsF, List.append_nil] at he
      rw [he] at s
      exact h _ _ _ _ (Sep.gain s0 s (i := 0) rfl) (sep_fr s)
    intro k
    induction k with
    | zero =>
      intro i oa on oc out w hk hi hon he s
      obtain rfl : i = n := by omega
      exact stop _ _ _ _ _ _ he s
    | succ k ih =>
      intro i oa on oc out w hk hi hon he s
      by_cases hin : i = n
      · subst hin
        exact stop _ _ _ _ _ _ he s
      · show herdsmanref1_runs.s3 Q (herdsmanref1_runs.b3 Q (k + 1)) _ _ _ _ _ _ _ _
        unfold herdsmanref1_runs.s3
        rw [decide_eq_true (by omega), cond_true]
        have hx : cs[i]? = some (gi cs i) := gi_get (by omega)
        have hd : cs.drop i = gi cs i :: cs.drop (i + 1) := by
          obtain ⟨h1, h2⟩ := List.getElem?_eq_some_iff.1 hx
          rw [List.drop_eq_getElem_cons h1, h2]
        have hll := lead_le (gi cs i) (cs.drop (i + 1))
        rw [List.length_drop] at hll
        refine ⟨n - (i + 1) + 1, inner _ (gi cs i) i oa on oc out hx (by omega) (fun a' c' w' s' => ?_) (n - (i + 1)) 0 w (by omega) (by rw [Nat.zero_add]) s⟩
        refine ih (i + 1 + lead (gi cs i) (cs.drop (i + 1))) a' (on + 2) c' _ w' (by omega) (by omega) (by omega) ?_ s'
        rw [← he, hd, show n - i = (n - (i + 1)) + 1 by omega, runsF, List.append_assoc, List.drop_drop]
        congr 1
        show _ :: _ :: _ = _ :: _ :: _
        congr 2
        exact runsF_eq _ _ _ (by rw [List.length_drop]; omega) (by rw [List.length_drop]; omega)
  exact ⟨n + 1, outer n 0 _ 1 1 [2] w (by omega) (by omega) (by omega) (by rw [List.drop_zero, Nat.sub_zero, ← hlen]; rfl) s⟩
end
end Go.Proofs.Ytjndgflalbcngaa.S
