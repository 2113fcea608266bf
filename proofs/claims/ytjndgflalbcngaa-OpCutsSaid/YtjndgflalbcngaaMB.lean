/- Maps' bytes; asks that are odd: the document's own. -/
import Derived.Test.YtjndgflalbcngaaMA
set_option linter.unusedVariables false
set_option linter.unusedSimpArgs false
namespace Go.Proofs.Ytjndgflalbcngaa.S
open Go.Sx
attribute [local irreducible] LdI LdB LdStr LdP LdS LdM LdV St Bx Al App Cpy MkS MkM EqK RunK RunU CallK SlK blkA rowA joinA mapA
section
variable {F : Nat → Prop} {W w w0 : World} {L : List As} {a : Option Addr} {n c : Nat} {cs : List Int}
theorem rPutTile.spec {tw th : Int} {Q : Int → Option Addr → Nat → Nat → World → Prop} (s0 : Sep F W w0 L) (hA : Sl w0 a n c 1 by8 cs) (hcs : Rng cs) (hn : 1 ≤ n ∧ n ≤ 100000)
    (h : ∀ ra rn rc w', Sep F W w' (rowA ra rn rc 5 1 (flat by8 (putT cs).2) :: L) → Fr No w0 w' → Q (putT cs).1 ra rn rc w') : herdsmanref1_PutTile.call tw th a n c w0 Q := by
  refine herdsmanref1_PutTile.body _ _ _ _ _ _ _ ?_
  unfold herdsmanref1_PutTile.sh
  have hlen := hA.len
  refine Sep.Bx (Sep.nil (F := No) (w := w0)) fun tb w s => ?_
  refine Sep.LdS s (i := 0) rfl rfl rfl ?_
  refine rRuns.spec s (hA.fr (sep_fr s)) hcs hn.2 fun ra rn rc w s _ => ?_
  have hr := Sep.sl s (i := 0) rfl by8_len (by decide)
  have hrl := hr.len
  unfold putT at h
  by_cases h3 : (runsP cs).length = 3
  · rw [show ((rn : Int) == 3) = true by rw [beq_iff_eq]; omega, cond_true]
    rw [if_pos h3] at h
    have s := Sep.drew s
    refine Sep.LdS s (i := 1) rfl rfl rfl ?_
    obtain ⟨ad, rfl, hv⟩ := hA.row.2 0 _ (gi_get (l := cs) (i := 0) (by omega))
    have hv : w0.cell? (ad.add ((0 : Int).toNat * 1)) = some (.int .u8 (gi cs 0)) := hv 0 _ rfl
    refine ⟨by decide, by omega, wA_some ?_⟩
    refine LdI_cell (Fr.cell (sep_fr s) hv id) ?_
    have fin : ∀ (b : Nat) (w' : World) (L' : List As), Sep No w0 w' (blkA b 5 [.int .u8 0, .int .u8 (gi cs 0)] :: L') → Q 0 (some ⟨b, 0, none⟩) 2 2 w' := fun b w' L' s => by
      have s := Sep.blk_row (n := 2) (size := 1) s (i := 0) rfl rfl (by decide) (by simp; exact ⟨rfl, rfl⟩)
      simp only [List.set_cons_zero] at s
      have s : Sep No w0 w' (rowA (some ⟨b, 0, none⟩) 2 2 5 1 (flat by8 [0, gi cs 0]) :: L') := s
      exact h _ _ _ _ (Sep.gain s0 s (i := 0) rfl) (sep_fr s)
    refine ⟨?_, ?_⟩
    · refine Sep.Bx s fun b w s => ?_
      exact ⟨Fr.cell (sep_fr s) hv id, Sep.cell s (i := 2) rfl rfl rfl, fin _ _ _ s⟩
    · refine ⟨Fr.cell (sep_fr s) hv id, Sep.cell s (i := 1) rfl rfl rfl, ?_⟩
      refine Sep.Bx s fun b w s => ?_
      exact fin _ _ _ s
  · rw [show ((rn : Int) == 3) = false by rw [beq_eq_false_iff_ne]; omega, cond_false]
    rw [if_neg h3] at h
    refine Sep.LdS s (i := 1) rfl rfl rfl ?_
    rw [wrap_i64 (n := 1 + (n : Int)) (by omega) (by omega)]
    by_cases h4 : (runsP cs).length < 1 + cs.length
    · rw [decide_eq_true (by omega), cond_true]
      rw [if_pos h4] at h
      exact h _ _ _ _ (Sep.gain s0 s (i := 0) rfl) (sep_fr s)
    · rw [decide_eq_false (by omega), cond_false]
      rw [if_neg h4] at h
      refine Sep.Bx s fun b w s => ?_
      have s := byte1 s
      refine Sep.LdS s (i := 2) rfl rfl rfl ?_
      refine appSl s (hA.fr (sep_fr s)) (by omega) fun ra rc w s => ?_
      exact h _ _ _ _ (Sep.gain s0 s (i := 0) rfl) (sep_fr s)
theorem rPutMap.spec {m : MapP} {Q : Option Addr → Nat → Nat → World → Prop} (s0 : Sep F W w0 L) (hA : Sl w0 a n c 1 by8 m.cs) (hm : MayM m)
    (h : ∀ ra rn rc w', Sep F W w' (rowA ra rn rc 5 1 (flat by8 (putMapP m)) :: L) → Fr No w0 w' → Q ra rn rc w') : herdsmanref1_PutMap.call m.w m.h a n c w0 Q := by
  refine herdsmanref1_PutMap.body _ _ _ _ _ _ _ ?_
  unfold herdsmanref1_PutMap.sh
  have hc := cntS_range hm.w hm.h
  refine Sep.Bx (Sep.nil (F := No) (w := w0)) fun mb w s => ?_
  refine Sep.LdI s (i := 0) rfl rfl rfl ?_
  refine Sep.LdI s (i := 0) rfl rfl rfl ?_
  refine ⟨by decide, ?_⟩
  refine Sep.LdI s (i := 0) rfl rfl rfl ?_
  refine Sep.LdI s (i := 0) rfl rfl rfl ?_
  refine ⟨by decide, ?_⟩
  have e8 : ∀ v : Int, ishr .i64 v 8 = v / 256 := fun v => by
    unfold ishr
    rw [show min (8 : Int).toNat (IntKind.i64).bits = 8 by decide, Int.fdiv_eq_ediv_of_nonneg _ (by decide)]
    rfl
  rw [e8, e8, wrap_u8', wrap_u8', wrap_u8', wrap_u8']
  refine Sep.Bx s fun hb w s => ?_
  have s := Sep.blk_row (n := 4) (size := 1) s (i := 0) rfl rfl (by decide) (by simp; exact ⟨rfl, rfl, rfl, rfl⟩)
  simp only [List.set_cons_zero] at s
  have s : Sep No w0 w [rowA (some ⟨hb, 0, none⟩) 4 4 5 1 (flat by8 ([m.w % 256, m.w / 256 % 256, m.h % 256, m.h / 256 % 256] ++ partsP m 0)), blkA mb 55 [.int .i64 m.w, .int .i64 m.h, .slice a n c]] := s
  have loop : ∀ (k i : Nat) (ba : Option Addr) (bn bc : Nat) (w : World), ((i + k : Nat) : Int) = cntS m.w m.h → bn ≤ 4 + 258 * i →
      Sep No w0 w [rowA ba bn bc 5 1 (flat by8 ([m.w % 256, m.w / 256 % 256, m.h % 256, m.h / 256 % 256] ++ partsP m i)), blkA mb 55 [.int .i64 m.w, .int .i64 m.h, .slice a n c]] → herdsmanref1_PutMap.b3 Q (k + 1) ⟨mb, 0, none⟩ ba bn bc i w := by
    intro k
    induction k with
    | zero =>
      intro i ba bn bc w hi hbn s
      show herdsmanref1_PutMap.s3 Q (herdsmanref1_PutMap.b3 Q 0) _ _ _ _ _ _
      unfold herdsmanref1_PutMap.s3
      refine Sep.LdI s (i := 1) rfl rfl rfl ?_
      refine Sep.LdI s (i := 1) rfl rfl rfl ?_
      refine rCount.spec hm.w hm.h ?_
      rw [decide_eq_false (by omega), cond_false]
      have e : i = (cntS m.w m.h).toNat := by omega
      rw [e] at s
      exact h _ _ _ _ (Sep.gain s0 s (i := 0) rfl) (sep_fr s)
    | succ k ih =>
      intro i ba bn bc w hi hbn s
      show herdsmanref1_PutMap.s3 Q (herdsmanref1_PutMap.b3 Q (k + 1)) _ _ _ _ _ _
      unfold herdsmanref1_PutMap.s3
      have hsr : 0 ≤ (i : Int) ∧ (i : Int) < cntS m.w m.h := by omega
      have htl := tileP_len hm hsr
      have htr := tileP_rng hm hsr
      refine Sep.LdI s (i := 1) rfl rfl rfl ?_
      refine Sep.LdI s (i := 1) rfl rfl rfl ?_
      refine rCount.spec hm.w hm.h ?_
      rw [decide_eq_true (by omega), cond_true]
      refine Sep.LdI s (i := 1) rfl rfl rfl ?_
      refine Sep.LdI s (i := 1) rfl rfl rfl ?_
      refine Sep.LdS s (i := 1) rfl rfl rfl ?_
      refine rTileOf.spec s (hA.fr (sep_fr s)) hm (by omega) fun ra rn rc w s _ => ?_
      have ht := Sep.sl s (i := 0) rfl by8_len (by decide)
      have htn := ht.len
      refine rPutTile.spec s ht (fun x hx => by have := htr x hx; omega) (by omega) fun pa pn pc w s _ => ?_
      have hp := Sep.sl s (i := 0) rfl by8_len (by decide)
      have hpn := hp.len
      have hpl := putT_len (cs := tileP m i)
      have s := Sep.pick (L' := [_, _, _, _]) [2, 3, 0, 1] s rfl (by decide)
      refine appSl s (Sep.sl s (i := 2) rfl by8_len (by decide)) (by omega) fun ra rc w s => ?_
      rw [wrap_i64 (n := (i : Int) + 1) (by omega) (by omega)]
      have s := Sep.pick (L' := [_, _]) [0, 1] s rfl (by decide)
      rw [List.append_assoc, ← partsP_succ] at s
      exact ih (i + 1) ra _ rc w (by omega) (by omega) s
  exact ⟨(cntS m.w m.h).toNat + 1, loop _ 0 _ 4 4 w (by omega) (by omega) s⟩
attribute [local irreducible] herdsmanref26_Odd.b2 in
theorem rOdd.spec {x : AskQ} {nn : Int} {Q : Int → Int → Int → Option Addr → Nat → Nat → World → Prop} (s0 : Sep F W w0 L) (hn : 1 ≤ nn ∧ nn ≤ 2000000)
    (h : ∀ ra rn rc w', Sep F W w' (rowA ra rn rc 5 1 (flat by8 (oddP x nn).m) :: L) → Fr No w0 w' → Q (oddP x nn).k (oddP x nn).A (oddP x nn).B ra rn rc w') : herdsmanref26_Odd.call x.k x.a x.b nn w0 Q := by
  refine herdsmanref26_Odd.body _ _ _ _ _ _ ?_
  unfold herdsmanref26_Odd.sh
  have h1 := wiI_range (n := x.b) (lo := 1) (hi := 6) (by decide)
  have h2 := wiI_range (n := x.a) (lo := 0) (hi := nn - 1) (by omega)
  have h3 := wiI_range (n := x.a) (lo := 0) (hi := 1) (by decide)
  have h4 := wiI_range (n := x.a) (lo := 0) (hi := 5) (by decide)
  have hb2 : ∀ (w : World) (ob xb pb : Nat) (L' : List As) (is : List Nat) (L3 : List As), is.Nodup → is.map (fun i => L'[i]?) = [some (blkA ob 30 [.int .i64 (wiI x.b 1 6), .int .i64 (nn + wiI x.a 0 5), .int .i64 (wiI x.a 0 9), .slice none 0 0]), some (blkA pb 30 [.int .i64 0, .int .i64 0, .int .i64 0, .slice none 0 0]), some (blkA xb 59 [.int .i64 x.k, .int .i64 x.a, .int .i64 x.b])] →
      Sep No w0 w L' → herdsmanref26_Odd.b2 Q nn ⟨xb, 0, none⟩ ⟨pb, 0, none⟩ ⟨ob, 0, none⟩ w := by
    intro w ob xb pb L' is L3 hnd hpk s
    have s := Sep.pick (L' := [_, _, _]) is s hpk hnd
    unfold herdsmanref26_Odd.b2
    unfold oddP at h
    simp only at h
    refine Sep.LdI s (i := 0) rfl rfl rfl ?_
    by_cases k1 : wiI x.b 1 6 = 1
    · rw [show (wiI x.b 1 6 == 1) = true by rw [beq_iff_eq]; exact k1, cond_true]
      rw [if_pos k1] at h
      rw [k1] at s
      have s := Sep.drew s
      have fin : ∀ (w : World) (b2 : Nat) (L2 : List As) (is : List Nat), is.Nodup → is.map (fun i => L2[i]?) = [some (blkA b2 5 [.int .u8 2, .int .u8 0, .int .u8 1, .int .u8 0, .int .u8 1, .int .u8 (x.a % 256), .int .u8 (x.b % 256)])] → Sep No w0 w L2 → Q 1 0 0 (some ⟨b2, 0, none⟩) 7 7 w := by
        intro w b2 L2 is hnd hpk s
        have s := Sep.pick (L' := [_]) is s hpk hnd
        have s := Sep.blk_row (n := 7) (size := 1) s (i := 0) rfl rfl (by decide) (fun u hu => by simp only [List.mem_cons, List.not_mem_nil, or_false] at hu; rcases hu with rfl | rfl | rfl | rfl | rfl | rfl | rfl <;> rfl)
        simp only [List.set_cons_zero] at s
        have s : Sep No w0 w [rowA (some ⟨b2, 0, none⟩) 7 7 5 1 (flat by8 [2, 0, 1, 0, 1, x.a % 256, x.b % 256])] := s
        exact h _ _ _ _ (Sep.gain s0 s (i := 0) rfl) (sep_fr s)
      refine Sep.LdI s (i := 2) rfl rfl rfl ?_
      refine Sep.LdI s (i := 2) rfl rfl rfl ?_
      rw [wrap_u8', wrap_u8']
      repeat' first
        | refine Sep.LdI s (i := 0) rfl rfl rfl ?_
        | refine Sep.LdS s (i := 0) rfl rfl rfl ?_
        | refine Sep.LdB s (i := 0) rfl rfl rfl ?_
        | refine Sep.LdP s (i := 0) rfl rfl rfl ?_
        | refine And.intro (Sep.cell s (i := 0) rfl rfl rfl) ?_
        | refine Sep.LdI s (i := 1) rfl rfl rfl ?_
        | refine Sep.LdS s (i := 1) rfl rfl rfl ?_
        | refine Sep.LdB s (i := 1) rfl rfl rfl ?_
        | refine Sep.LdP s (i := 1) rfl rfl rfl ?_
        | refine And.intro (Sep.cell s (i := 1) rfl rfl rfl) ?_
        | refine Sep.LdI s (i := 2) rfl rfl rfl ?_
        | refine Sep.LdS s (i := 2) rfl rfl rfl ?_
        | refine Sep.LdB s (i := 2) rfl rfl rfl ?_
        | refine Sep.LdP s (i := 2) rfl rfl rfl ?_
        | refine And.intro (Sep.cell s (i := 2) rfl rfl rfl) ?_
        | refine Sep.LdI s (i := 3) rfl rfl rfl ?_
        | refine Sep.LdS s (i := 3) rfl rfl rfl ?_
        | refine Sep.LdB s (i := 3) rfl rfl rfl ?_
        | refine Sep.LdP s (i := 3) rfl rfl rfl ?_
        | refine And.intro (Sep.cell s (i := 3) rfl rfl rfl) ?_
        | refine Sep.LdI s (i := 4) rfl rfl rfl ?_
        | refine Sep.LdS s (i := 4) rfl rfl rfl ?_
        | refine Sep.LdB s (i := 4) rfl rfl rfl ?_
        | refine Sep.LdP s (i := 4) rfl rfl rfl ?_
        | refine And.intro (Sep.cell s (i := 4) rfl rfl rfl) ?_
        | (refine Sep.St s (i := 0) rfl rfl rfl fun w s => ?_; simp only [List.set_cons_zero, List.set_cons_succ] at s)
        | (refine Sep.St s (i := 1) rfl rfl rfl fun w s => ?_; simp only [List.set_cons_zero, List.set_cons_succ] at s)
        | (refine Sep.St s (i := 2) rfl rfl rfl fun w s => ?_; simp only [List.set_cons_zero, List.set_cons_succ] at s)
        | (refine Sep.St s (i := 3) rfl rfl rfl fun w s => ?_; simp only [List.set_cons_zero, List.set_cons_succ] at s)
        | (refine Sep.St s (i := 4) rfl rfl rfl fun w s => ?_; simp only [List.set_cons_zero, List.set_cons_succ] at s)
        | refine Sep.Bx s fun b w s => ?_
        | (refine Sep.Al s fun b w s => ?_; simp only [zcMap, zcTile, zcOp, zcAsk] at s)
        | exact fin _ _ _ [0] (by decide) rfl s
        | refine And.intro ?_ ?_
        | rw [wrap_u8', wrap_u8']
        | (replace s := Sep.drew s; first
          | refine Sep.LdI s (i := 0) rfl rfl rfl ?_
          | refine Sep.LdS s (i := 0) rfl rfl rfl ?_
          | refine Sep.LdB s (i := 0) rfl rfl rfl ?_
          | refine Sep.LdP s (i := 0) rfl rfl rfl ?_
          | refine And.intro (Sep.cell s (i := 0) rfl rfl rfl) ?_
          | refine Sep.LdI s (i := 1) rfl rfl rfl ?_
          | refine Sep.LdS s (i := 1) rfl rfl rfl ?_
          | refine Sep.LdB s (i := 1) rfl rfl rfl ?_
          | refine Sep.LdP s (i := 1) rfl rfl rfl ?_
          | refine And.intro (Sep.cell s (i := 1) rfl rfl rfl) ?_
          | refine Sep.LdI s (i := 2) rfl rfl rfl ?_
          | refine Sep.LdS s (i := 2) rfl rfl rfl ?_
          | refine Sep.LdB s (i := 2) rfl rfl rfl ?_
          | refine Sep.LdP s (i := 2) rfl rfl rfl ?_
          | refine And.intro (Sep.cell s (i := 2) rfl rfl rfl) ?_
          | refine Sep.LdI s (i := 3) rfl rfl rfl ?_
          | refine Sep.LdS s (i := 3) rfl rfl rfl ?_
          | refine Sep.LdB s (i := 3) rfl rfl rfl ?_
          | refine Sep.LdP s (i := 3) rfl rfl rfl ?_
          | refine And.intro (Sep.cell s (i := 3) rfl rfl rfl) ?_
          | refine Sep.LdI s (i := 4) rfl rfl rfl ?_
          | refine Sep.LdS s (i := 4) rfl rfl rfl ?_
          | refine Sep.LdB s (i := 4) rfl rfl rfl ?_
          | refine Sep.LdP s (i := 4) rfl rfl rfl ?_
          | refine And.intro (Sep.cell s (i := 4) rfl rfl rfl) ?_
          | (refine Sep.St s (i := 0) rfl rfl rfl fun w s => ?_; simp only [List.set_cons_zero, List.set_cons_succ] at s)
          | (refine Sep.St s (i := 1) rfl rfl rfl fun w s => ?_; simp only [List.set_cons_zero, List.set_cons_succ] at s)
          | (refine Sep.St s (i := 2) rfl rfl rfl fun w s => ?_; simp only [List.set_cons_zero, List.set_cons_succ] at s)
          | (refine Sep.St s (i := 3) rfl rfl rfl fun w s => ?_; simp only [List.set_cons_zero, List.set_cons_succ] at s)
          | (refine Sep.St s (i := 4) rfl rfl rfl fun w s => ?_; simp only [List.set_cons_zero, List.set_cons_succ] at s)
          | refine Sep.Bx s fun b w s => ?_
          | (refine Sep.Al s fun b w s => ?_; simp only [zcMap, zcTile, zcOp, zcAsk] at s)
          | exact fin _ _ _ [0] (by decide) rfl s
          | refine And.intro ?_ ?_
          | rw [wrap_u8', wrap_u8'])
    · rw [show (wiI x.b 1 6 == 1) = false by rw [beq_eq_false_iff_ne]; exact k1, cond_false]
      rw [if_neg k1] at h
      have fin : ∀ (w : World) (L2 : List As) (A B : Int), (∀ ra rn rc w', Sep F W w' (rowA ra rn rc 5 1 (flat by8 []) :: L) → Fr No w0 w' → Q (wiI x.b 1 6) A B ra rn rc w') → Sep No w0 w L2 → Q (wiI x.b 1 6) A B none 0 0 w := by
        intro w L2 A B h s
        exact h _ _ _ _ (Sep.row_nil (Sep.call s0 (sep_fr s)) 5 1) (sep_fr s)
      by_cases k2 : wiI x.b 1 6 = 2
      · rw [show (wiI x.b 1 6 == 2) = true by rw [beq_iff_eq]; exact k2, cond_true]
        rw [if_pos k2] at h
        refine Sep.LdI s (i := 2) rfl rfl rfl ?_
        rw [wrap_i64 (n := nn - 1) (by omega) (by omega)]
        refine herdsmanref1_Within.spec (by omega) (by decide) (by omega) ?_
        refine Sep.St s (i := 0) rfl rfl rfl fun w s => ?_
        simp only [List.set_cons_zero, List.set_cons_succ] at s
        refine Sep.LdI s (i := 2) rfl rfl rfl ?_
        refine herdsmanref1_Within.spec (by decide) (by decide) (by decide) ?_
        have e : IntKind.wrap .i64 ((0 + x.a % (1 - 0 + 1)) * 255) = wiI x.a 0 1 * 255 := wrap_i64 (by show _ ≤ wiI x.a 0 1 * 255; omega) (by show wiI x.a 0 1 * 255 < _; omega)
        rw [e]
        repeat' first
          | refine Sep.LdI s (i := 0) rfl rfl rfl ?_
          | refine Sep.LdS s (i := 0) rfl rfl rfl ?_
          | refine Sep.LdB s (i := 0) rfl rfl rfl ?_
          | refine Sep.LdP s (i := 0) rfl rfl rfl ?_
          | refine And.intro (Sep.cell s (i := 0) rfl rfl rfl) ?_
          | refine Sep.LdI s (i := 1) rfl rfl rfl ?_
          | refine Sep.LdS s (i := 1) rfl rfl rfl ?_
          | refine Sep.LdB s (i := 1) rfl rfl rfl ?_
          | refine Sep.LdP s (i := 1) rfl rfl rfl ?_
          | refine And.intro (Sep.cell s (i := 1) rfl rfl rfl) ?_
          | refine Sep.LdI s (i := 2) rfl rfl rfl ?_
          | refine Sep.LdS s (i := 2) rfl rfl rfl ?_
          | refine Sep.LdB s (i := 2) rfl rfl rfl ?_
          | refine Sep.LdP s (i := 2) rfl rfl rfl ?_
          | refine And.intro (Sep.cell s (i := 2) rfl rfl rfl) ?_
          | (refine Sep.St s (i := 0) rfl rfl rfl fun w s => ?_; simp only [List.set_cons_zero, List.set_cons_succ] at s)
          | (refine Sep.St s (i := 1) rfl rfl rfl fun w s => ?_; simp only [List.set_cons_zero, List.set_cons_succ] at s)
          | (refine Sep.St s (i := 2) rfl rfl rfl fun w s => ?_; simp only [List.set_cons_zero, List.set_cons_succ] at s)
          | refine Sep.Bx s fun b w s => ?_
          | (refine Sep.Al s fun b w s => ?_; simp only [zcMap, zcTile, zcOp, zcAsk] at s)
          | (replace s := Sep.drew s; first
            | refine Sep.LdI s (i := 0) rfl rfl rfl ?_
            | refine Sep.LdS s (i := 0) rfl rfl rfl ?_
            | refine Sep.LdB s (i := 0) rfl rfl rfl ?_
            | refine Sep.LdP s (i := 0) rfl rfl rfl ?_
            | refine And.intro (Sep.cell s (i := 0) rfl rfl rfl) ?_
            | refine Sep.LdI s (i := 1) rfl rfl rfl ?_
            | refine Sep.LdS s (i := 1) rfl rfl rfl ?_
            | refine Sep.LdB s (i := 1) rfl rfl rfl ?_
            | refine Sep.LdP s (i := 1) rfl rfl rfl ?_
            | refine And.intro (Sep.cell s (i := 1) rfl rfl rfl) ?_
            | refine Sep.LdI s (i := 2) rfl rfl rfl ?_
            | refine Sep.LdS s (i := 2) rfl rfl rfl ?_
            | refine Sep.LdB s (i := 2) rfl rfl rfl ?_
            | refine Sep.LdP s (i := 2) rfl rfl rfl ?_
            | refine And.intro (Sep.cell s (i := 2) rfl rfl rfl) ?_
            | (refine Sep.St s (i := 0) rfl rfl rfl fun w s => ?_; simp only [List.set_cons_zero, List.set_cons_succ] at s)
            | (refine Sep.St s (i := 1) rfl rfl rfl fun w s => ?_; simp only [List.set_cons_zero, List.set_cons_succ] at s)
            | (refine Sep.St s (i := 2) rfl rfl rfl fun w s => ?_; simp only [List.set_cons_zero, List.set_cons_succ] at s)
            | refine Sep.Bx s fun b w s => ?_
            | (refine Sep.Al s fun b w s => ?_; simp only [zcMap, zcTile, zcOp, zcAsk] at s))
        refine fin _ _ _ _ ?_ s
        rw [k2]
        exact h
      · rw [show (wiI x.b 1 6 == 2) = false by rw [beq_eq_false_iff_ne]; exact k2, cond_false]
        rw [if_neg k2] at h
        by_cases k5 : wiI x.b 1 6 = 5
        · rw [show (wiI x.b 1 6 == 5) = true by rw [beq_iff_eq]; exact k5, cond_true]
          rw [if_pos k5] at h
          repeat' first
            | refine Sep.LdI s (i := 0) rfl rfl rfl ?_
            | refine Sep.LdS s (i := 0) rfl rfl rfl ?_
            | refine Sep.LdB s (i := 0) rfl rfl rfl ?_
            | refine Sep.LdP s (i := 0) rfl rfl rfl ?_
            | refine And.intro (Sep.cell s (i := 0) rfl rfl rfl) ?_
            | refine Sep.LdI s (i := 1) rfl rfl rfl ?_
            | refine Sep.LdS s (i := 1) rfl rfl rfl ?_
            | refine Sep.LdB s (i := 1) rfl rfl rfl ?_
            | refine Sep.LdP s (i := 1) rfl rfl rfl ?_
            | refine And.intro (Sep.cell s (i := 1) rfl rfl rfl) ?_
            | refine Sep.LdI s (i := 2) rfl rfl rfl ?_
            | refine Sep.LdS s (i := 2) rfl rfl rfl ?_
            | refine Sep.LdB s (i := 2) rfl rfl rfl ?_
            | refine Sep.LdP s (i := 2) rfl rfl rfl ?_
            | refine And.intro (Sep.cell s (i := 2) rfl rfl rfl) ?_
            | (refine Sep.St s (i := 0) rfl rfl rfl fun w s => ?_; simp only [List.set_cons_zero, List.set_cons_succ] at s)
            | (refine Sep.St s (i := 1) rfl rfl rfl fun w s => ?_; simp only [List.set_cons_zero, List.set_cons_succ] at s)
            | (refine Sep.St s (i := 2) rfl rfl rfl fun w s => ?_; simp only [List.set_cons_zero, List.set_cons_succ] at s)
            | refine Sep.Bx s fun b w s => ?_
            | (refine Sep.Al s fun b w s => ?_; simp only [zcMap, zcTile, zcOp, zcAsk] at s)
            | (replace s := Sep.drew s; first
              | refine Sep.LdI s (i := 0) rfl rfl rfl ?_
              | refine Sep.LdS s (i := 0) rfl rfl rfl ?_
              | refine Sep.LdB s (i := 0) rfl rfl rfl ?_
              | refine Sep.LdP s (i := 0) rfl rfl rfl ?_
              | refine And.intro (Sep.cell s (i := 0) rfl rfl rfl) ?_
              | refine Sep.LdI s (i := 1) rfl rfl rfl ?_
              | refine Sep.LdS s (i := 1) rfl rfl rfl ?_
              | refine Sep.LdB s (i := 1) rfl rfl rfl ?_
              | refine Sep.LdP s (i := 1) rfl rfl rfl ?_
              | refine And.intro (Sep.cell s (i := 1) rfl rfl rfl) ?_
              | refine Sep.LdI s (i := 2) rfl rfl rfl ?_
              | refine Sep.LdS s (i := 2) rfl rfl rfl ?_
              | refine Sep.LdB s (i := 2) rfl rfl rfl ?_
              | refine Sep.LdP s (i := 2) rfl rfl rfl ?_
              | refine And.intro (Sep.cell s (i := 2) rfl rfl rfl) ?_
              | (refine Sep.St s (i := 0) rfl rfl rfl fun w s => ?_; simp only [List.set_cons_zero, List.set_cons_succ] at s)
              | (refine Sep.St s (i := 1) rfl rfl rfl fun w s => ?_; simp only [List.set_cons_zero, List.set_cons_succ] at s)
              | (refine Sep.St s (i := 2) rfl rfl rfl fun w s => ?_; simp only [List.set_cons_zero, List.set_cons_succ] at s)
              | refine Sep.Bx s fun b w s => ?_
              | (refine Sep.Al s fun b w s => ?_; simp only [zcMap, zcTile, zcOp, zcAsk] at s))
          refine fin _ _ _ _ ?_ s
          rw [k5]
          exact h
        · rw [show (wiI x.b 1 6 == 5) = false by rw [beq_eq_false_iff_ne]; exact k5, cond_false]
          rw [if_neg k5] at h
          repeat' first
            | refine Sep.LdI s (i := 0) rfl rfl rfl ?_
            | refine Sep.LdS s (i := 0) rfl rfl rfl ?_
            | refine Sep.LdB s (i := 0) rfl rfl rfl ?_
            | refine Sep.LdP s (i := 0) rfl rfl rfl ?_
            | refine And.intro (Sep.cell s (i := 0) rfl rfl rfl) ?_
            | refine Sep.LdI s (i := 1) rfl rfl rfl ?_
            | refine Sep.LdS s (i := 1) rfl rfl rfl ?_
            | refine Sep.LdB s (i := 1) rfl rfl rfl ?_
            | refine Sep.LdP s (i := 1) rfl rfl rfl ?_
            | refine And.intro (Sep.cell s (i := 1) rfl rfl rfl) ?_
            | refine Sep.LdI s (i := 2) rfl rfl rfl ?_
            | refine Sep.LdS s (i := 2) rfl rfl rfl ?_
            | refine Sep.LdB s (i := 2) rfl rfl rfl ?_
            | refine Sep.LdP s (i := 2) rfl rfl rfl ?_
            | refine And.intro (Sep.cell s (i := 2) rfl rfl rfl) ?_
            | (refine Sep.St s (i := 0) rfl rfl rfl fun w s => ?_; simp only [List.set_cons_zero, List.set_cons_succ] at s)
            | (refine Sep.St s (i := 1) rfl rfl rfl fun w s => ?_; simp only [List.set_cons_zero, List.set_cons_succ] at s)
            | (refine Sep.St s (i := 2) rfl rfl rfl fun w s => ?_; simp only [List.set_cons_zero, List.set_cons_succ] at s)
            | refine Sep.Bx s fun b w s => ?_
            | (refine Sep.Al s fun b w s => ?_; simp only [zcMap, zcTile, zcOp, zcAsk] at s)
            | (replace s := Sep.drew s; first
              | refine Sep.LdI s (i := 0) rfl rfl rfl ?_
              | refine Sep.LdS s (i := 0) rfl rfl rfl ?_
              | refine Sep.LdB s (i := 0) rfl rfl rfl ?_
              | refine Sep.LdP s (i := 0) rfl rfl rfl ?_
              | refine And.intro (Sep.cell s (i := 0) rfl rfl rfl) ?_
              | refine Sep.LdI s (i := 1) rfl rfl rfl ?_
              | refine Sep.LdS s (i := 1) rfl rfl rfl ?_
              | refine Sep.LdB s (i := 1) rfl rfl rfl ?_
              | refine Sep.LdP s (i := 1) rfl rfl rfl ?_
              | refine And.intro (Sep.cell s (i := 1) rfl rfl rfl) ?_
              | refine Sep.LdI s (i := 2) rfl rfl rfl ?_
              | refine Sep.LdS s (i := 2) rfl rfl rfl ?_
              | refine Sep.LdB s (i := 2) rfl rfl rfl ?_
              | refine Sep.LdP s (i := 2) rfl rfl rfl ?_
              | refine And.intro (Sep.cell s (i := 2) rfl rfl rfl) ?_
              | (refine Sep.St s (i := 0) rfl rfl rfl fun w s => ?_; simp only [List.set_cons_zero, List.set_cons_succ] at s)
              | (refine Sep.St s (i := 1) rfl rfl rfl fun w s => ?_; simp only [List.set_cons_zero, List.set_cons_succ] at s)
              | (refine Sep.St s (i := 2) rfl rfl rfl fun w s => ?_; simp only [List.set_cons_zero, List.set_cons_succ] at s)
              | refine Sep.Bx s fun b w s => ?_
              | (refine Sep.Al s fun b w s => ?_; simp only [zcMap, zcTile, zcOp, zcAsk] at s))
          exact fin _ _ _ _ h s
  have e1 : IntKind.wrap .i64 (nn + (0 + x.a % (5 - 0 + 1))) = nn + wiI x.a 0 5 := wrap_i64 (by show _ ≤ nn + wiI x.a 0 5; omega) (by show nn + wiI x.a 0 5 < _; omega)
  have s := Sep.nil (F := No) (w := w0)
  refine Sep.Bx s fun xb w s => ?_
  refine Sep.Al s fun pb w s => ?_
  simp only [zcOp] at s
  have s := Sep.drew s
  repeat' first
    | refine Sep.LdI s (i := 0) rfl rfl rfl ?_
    | refine Sep.LdS s (i := 0) rfl rfl rfl ?_
    | refine Sep.LdB s (i := 0) rfl rfl rfl ?_
    | refine Sep.LdP s (i := 0) rfl rfl rfl ?_
    | refine And.intro (Sep.cell s (i := 0) rfl rfl rfl) ?_
    | refine Sep.LdI s (i := 1) rfl rfl rfl ?_
    | refine Sep.LdS s (i := 1) rfl rfl rfl ?_
    | refine Sep.LdB s (i := 1) rfl rfl rfl ?_
    | refine Sep.LdP s (i := 1) rfl rfl rfl ?_
    | refine And.intro (Sep.cell s (i := 1) rfl rfl rfl) ?_
    | refine Sep.LdI s (i := 2) rfl rfl rfl ?_
    | refine Sep.LdS s (i := 2) rfl rfl rfl ?_
    | refine Sep.LdB s (i := 2) rfl rfl rfl ?_
    | refine Sep.LdP s (i := 2) rfl rfl rfl ?_
    | refine And.intro (Sep.cell s (i := 2) rfl rfl rfl) ?_
    | (refine Sep.St s (i := 0) rfl rfl rfl fun w s => ?_; simp only [List.set_cons_zero, List.set_cons_succ] at s)
    | (refine Sep.St s (i := 1) rfl rfl rfl fun w s => ?_; simp only [List.set_cons_zero, List.set_cons_succ] at s)
    | (refine Sep.St s (i := 2) rfl rfl rfl fun w s => ?_; simp only [List.set_cons_zero, List.set_cons_succ] at s)
    | refine Sep.Bx s fun b w s => ?_
    | (refine Sep.Al s fun b w s => ?_; simp only [zcMap, zcTile, zcOp, zcAsk] at s)
    | refine herdsmanref1_Within.spec (by decide) (by decide) (by decide) ?_
    | refine And.intro ?_ ?_
    | (replace s := Sep.drew s; first
      | refine Sep.LdI s (i := 0) rfl rfl rfl ?_
      | refine Sep.LdS s (i := 0) rfl rfl rfl ?_
      | refine Sep.LdB s (i := 0) rfl rfl rfl ?_
      | refine Sep.LdP s (i := 0) rfl rfl rfl ?_
      | refine And.intro (Sep.cell s (i := 0) rfl rfl rfl) ?_
      | refine Sep.LdI s (i := 1) rfl rfl rfl ?_
      | refine Sep.LdS s (i := 1) rfl rfl rfl ?_
      | refine Sep.LdB s (i := 1) rfl rfl rfl ?_
      | refine Sep.LdP s (i := 1) rfl rfl rfl ?_
      | refine And.intro (Sep.cell s (i := 1) rfl rfl rfl) ?_
      | refine Sep.LdI s (i := 2) rfl rfl rfl ?_
      | refine Sep.LdS s (i := 2) rfl rfl rfl ?_
      | refine Sep.LdB s (i := 2) rfl rfl rfl ?_
      | refine Sep.LdP s (i := 2) rfl rfl rfl ?_
      | refine And.intro (Sep.cell s (i := 2) rfl rfl rfl) ?_
      | (refine Sep.St s (i := 0) rfl rfl rfl fun w s => ?_; simp only [List.set_cons_zero, List.set_cons_succ] at s)
      | (refine Sep.St s (i := 1) rfl rfl rfl fun w s => ?_; simp only [List.set_cons_zero, List.set_cons_succ] at s)
      | (refine Sep.St s (i := 2) rfl rfl rfl fun w s => ?_; simp only [List.set_cons_zero, List.set_cons_succ] at s)
      | refine Sep.Bx s fun b w s => ?_
      | (refine Sep.Al s fun b w s => ?_; simp only [zcMap, zcTile, zcOp, zcAsk] at s)
      | refine herdsmanref1_Within.spec (by decide) (by decide) (by decide) ?_
      | refine And.intro ?_ ?_)
  all_goals
    rw [e1] at s
    exact hb2 _ _ _ _ _ [0, 1, 2] [] (by decide) rfl s
end
end Go.Proofs.Ytjndgflalbcngaa.S
