/- Scripts made of numbers: the document's own. -/
import Derived.Test.YtjndgflalbcngaaMB
set_option linter.unusedVariables false
set_option linter.unusedSimpArgs false
namespace Go.Proofs.Ytjndgflalbcngaa.S
open Go.Sx
attribute [local irreducible] LdI LdB LdStr LdP LdS LdM LdV St Bx Al App Cpy MkS MkM EqK RunK RunU CallK SlK blkA rowA joinA mapA
def askc (x : AskQ) : List Value := [.int .i64 x.k, .int .i64 x.a, .int .i64 x.b]
section
variable {F : Nat → Prop} {W w w0 : World} {L : List As} {mw mh : Int} {ca la oa ra : Option Addr} {cn cc ln lc mb on oc rn rc i : Nat} {cs : List Int} {xs : List AskQ} {x : AskQ} {m : MapP} {es : List (OpR × OpP)} {Q : Option Addr → Nat → Nat → World → Prop}
variable {P5 : Int → Int → Option Addr → Nat → Nat → Option Addr → Nat → Nat → Addr → Option Addr → Nat → Nat → Int → Int → World → Prop}
/-- What is known between two asks. -/
def mdL (oa : Option Addr) (on oc : Nat) (es : List (OpR × OpP)) (mb : Nat) (m : MapP) (ra : Option Addr) (rn rc : Nat) : List As :=
  [rowA oa on oc 30 4 (flat opc (es.map (·.1))), mapsA es, blkA mb 55 [.int .i64 m.w, .int .i64 m.h, .slice ra rn rc], rowA ra rn rc 5 1 (flat by8 m.cs)]
/-- The ask's op is put behind the others. -/
theorem md_b35 {ob : Nat} {v : OpR} {o : OpP} {nn : Int} {rest : List As} (ha : Agree (v, o)) (hon : on ≤ 1000) (hi : i ≤ 1000)
    (s : Sep No w0 w (blkA ob 30 (opc v) :: rowA v.a v.n v.c 5 1 (flat by8 o.m) :: rowA oa on oc 30 4 (flat opc (es.map (·.1))) :: mapsA es :: rest))
    (next : ∀ a' c' w', Sep No w0 w' (rowA a' (on + 1) c' 30 4 (flat opc ((es ++ [(v, o)]).map (·.1))) :: mapsA (es ++ [(v, o)]) :: rest) → P5 mw mh ca cn cc la ln lc ⟨mb, 0, none⟩ a' (on + 1) c' nn ((i + 1 : Nat) : Int) w') :
    herdsmanref26_Made.b35 P5 Q mw mh ca cn cc la ln lc ⟨mb, 0, none⟩ oa on oc nn i ⟨ob, 0, none⟩ w := by
  unfold herdsmanref26_Made.b35
  unfold opc at s
  repeat' first
    | refine Sep.LdI s (i := 0) rfl rfl rfl ?_
    | refine Sep.LdS s (i := 0) rfl rfl rfl ?_
    | refine Sep.LdB s (i := 0) rfl rfl rfl ?_
    | refine Sep.LdP s (i := 0) rfl rfl rfl ?_
    | refine And.intro (Sep.cell s (i := 0) rfl rfl rfl) ?_
    | (replace s := Sep.drew s; first
      | refine Sep.LdI s (i := 0) rfl rfl rfl ?_
      | refine Sep.LdS s (i := 0) rfl rfl rfl ?_
      | refine Sep.LdB s (i := 0) rfl rfl rfl ?_
      | refine Sep.LdP s (i := 0) rfl rfl rfl ?_
      | refine And.intro (Sep.cell s (i := 0) rfl rfl rfl) ?_)
  have s := Sep.perm (Sep.drop s) (List.Perm.trans (List.Perm.swap ..) (List.Perm.cons _ (List.Perm.swap ..)))
  rw [wrap_i64 (n := (i : Int) + 1) (by omega) (by omega)]
  exact addOp (v := v) (o := o) s ha (by omega) fun a' c' w s => next a' c' w s
attribute [local irreducible] herdsmanref26_Made.b35 in
theorem md_b9 {ob xb : Nat} (hC : Sl w0 ca cn cc 1 by8 cs) (hcs : Rng cs) (hcn : cn < 9223372036854775808) (hm : MayM m) (hon : on ≤ 1000) (hi : i ≤ 1000)
    (s : Sep No w0 w (blkA ob 30 [.int .i64 0, .int .i64 (wiI x.a 0 ((m.cs.length : Int) - 1)), .int .i64 (wiI x.b 0 ((m.cs.length : Int) - 1)), .slice none 0 0] :: blkA xb 59 (askc x) :: mdL oa on oc es mb m ra rn rc))
    (next : ∀ (m' : MapP) v o a' c' ra' rn' rc' w', askP mw mh cs m x = (o, m') → Sep No w0 w' (mdL a' (on + 1) c' (es ++ [(v, o)]) mb m' ra' rn' rc') → P5 mw mh ca cn cc la ln lc ⟨mb, 0, none⟩ a' (on + 1) c' (m'.cs.length : Int) ((i + 1 : Nat) : Int) w') :
    herdsmanref26_Made.b9 P5 Q mw mh ca cn cc la ln lc ⟨mb, 0, none⟩ oa on oc (m.cs.length : Int) i ⟨xb, 0, none⟩ ⟨ob, 0, none⟩ w := by
  unfold herdsmanref26_Made.b9
  unfold mdL askc at s
  have hms := may_size hm
  have hA := wiI_range (n := x.a) (lo := 0) (hi := (m.cs.length : Int) - 1) (by omega)
  have hB := wiI_range (n := x.b) (lo := 0) (hi := (m.cs.length : Int) - 1) (by omega)
  have h9 := wiI_range (n := x.a) (lo := 0) (hi := 9) (by decide)
  have h20 := wiI_range (n := x.b) (lo := 0) (hi := 200) (by decide)
  have hk := wiI_range (n := x.k) (lo := 0) (hi := 15) (by decide)
  have hcost := costI_range (x := x.b % 256) (by omega)
  have ask := next
  unfold askP at ask
  simp only at ask
  refine Sep.LdI s (i := 1) rfl rfl rfl ?_
  refine herdsmanref1_Within.spec (by decide) (by decide) (by decide) ?_
  have ek : 0 + x.k % (15 - 0 + 1) = wiI x.k 0 15 := rfl
  rw [ek]
  have t : ∀ {a b : Int}, a = b → (a == b) = true := fun h => by rw [beq_iff_eq]; exact h
  have f : ∀ {a b : Int}, a ≠ b → (a == b) = false := fun h => by rw [beq_eq_false_iff_ne]; exact h
  -- an op without bytes of its own
  have plain : ∀ (k A B : Int) (w : World) (L' : List As) (js : List Nat), askP mw mh cs m x = (⟨k, A, B, []⟩, m) → js.Nodup → js.map (fun i => L'[i]?) = [some (blkA ob 30 [.int .i64 k, .int .i64 A, .int .i64 B, .slice none 0 0]), some (rowA oa on oc 30 4 (flat opc (es.map (·.1)))), some (mapsA es), some (blkA mb 55 [.int .i64 m.w, .int .i64 m.h, .slice ra rn rc]), some (rowA ra rn rc 5 1 (flat by8 m.cs))] →
      Sep No w0 w L' → herdsmanref26_Made.b35 P5 Q mw mh ca cn cc la ln lc ⟨mb, 0, none⟩ oa on oc (m.cs.length : Int) i ⟨ob, 0, none⟩ w := by
    intro k A B w L' js e hnd hpk s
    have s := Sep.pick (L' := [_, _, _, _, _]) js s hpk hnd
    have s := Sep.perm (Sep.row_nil s 5 1) (List.Perm.swap ..)
    exact md_b35 (v := ⟨k, A, B, none, 0, 0⟩) (o := ⟨k, A, B, []⟩) ⟨rfl, rfl, rfl, Rng.nil⟩ hon hi s fun a' c' w s => next _ _ _ a' c' ra rn rc w e s
  have b14 : (wiI x.k 0 15 = 0 ∨ wiI x.k 0 15 = 1 ∨ wiI x.k 0 15 = 2) → herdsmanref26_Made.b14 P5 Q mw mh ca cn cc la ln lc ⟨mb, 0, none⟩ oa on oc (m.cs.length : Int) i ⟨ob, 0, none⟩ w := by
    intro h
    unfold herdsmanref26_Made.b14
    refine Sep.St s (i := 0) rfl rfl rfl fun w s => ?_
    simp only [List.set_cons_zero, List.set_cons_succ] at s
    exact plain _ _ _ w _ [0, 2, 3, 4, 5] (by unfold askP; simp only; rw [if_pos h]) (by decide) rfl s
  have b21 : (wiI x.k 0 15 = 5 ∨ wiI x.k 0 15 = 6) → herdsmanref26_Made.b21 P5 Q mw mh ca cn cc la ln lc ⟨mb, 0, none⟩ oa on oc (m.cs.length : Int) i ⟨xb, 0, none⟩ ⟨ob, 0, none⟩ w := by
    intro h
    unfold herdsmanref26_Made.b21
    refine Sep.LdI s (i := 1) rfl rfl rfl ?_
    rw [wrap_u8']
    refine ref_Cost.spec (by omega) ?_
    rw [wrap_i64 (n := costI (x.b % 256)) (by omega) (by omega)]
    refine Sep.St s (i := 0) rfl rfl rfl fun w s => ?_
    refine Sep.St s (i := 0) rfl rfl rfl fun w s => ?_
    simp only [List.set_cons_zero, List.set_cons_succ] at s
    exact plain _ _ _ w _ [0, 2, 3, 4, 5] (by unfold askP; simp only; rw [if_neg (by omega), if_neg (by omega), if_neg (by omega), if_pos h]) (by decide) rfl s
  by_cases k0 : wiI x.k 0 15 = 0
  · rw [t k0, cond_true]
    exact b14 (.inl k0)
  rw [f k0, cond_false]
  by_cases k1 : wiI x.k 0 15 = 1
  · rw [t k1, cond_true]
    exact b14 (.inr (.inl k1))
  rw [f k1, cond_false]
  by_cases k2 : wiI x.k 0 15 = 2
  · rw [t k2, cond_true]
    exact b14 (.inr (.inr k2))
  rw [f k2, cond_false]
  by_cases k3 : wiI x.k 0 15 = 3
  · rw [t k3, cond_true]
    refine Sep.LdI s (i := 1) rfl rfl rfl ?_
    refine herdsmanref1_Within.spec (by decide) (by decide) (by decide) ?_
    refine Sep.St s (i := 0) rfl rfl rfl fun w s => ?_
    refine Sep.St s (i := 0) rfl rfl rfl fun w s => ?_
    simp only [List.set_cons_zero, List.set_cons_succ] at s
    exact plain _ _ _ w _ [0, 2, 3, 4, 5] (by unfold askP; simp only; rw [if_neg (by omega), if_pos k3]; rfl) (by decide) rfl s
  rw [f k3, cond_false]
  by_cases k4 : wiI x.k 0 15 = 4
  · rw [t k4, cond_true]
    refine Sep.LdI s (i := 1) rfl rfl rfl ?_
    refine herdsmanref1_Within.spec (by decide) (by decide) (by decide) ?_
    refine Sep.St s (i := 0) rfl rfl rfl fun w s => ?_
    refine Sep.St s (i := 0) rfl rfl rfl fun w s => ?_
    refine Sep.St s (i := 0) rfl rfl rfl fun w s => ?_
    simp only [List.set_cons_zero, List.set_cons_succ] at s
    exact plain _ _ _ w _ [0, 2, 3, 4, 5] (by unfold askP; simp only; rw [if_neg (by omega), if_neg (by omega), if_pos k4]; rfl) (by decide) rfl s
  rw [f k4, cond_false]
  by_cases k5 : wiI x.k 0 15 = 5
  · rw [t k5, cond_true]
    exact b21 (.inl k5)
  rw [f k5, cond_false]
  by_cases k6 : wiI x.k 0 15 = 6
  · rw [t k6, cond_true]
    exact b21 (.inr k6)
  rw [f k6, cond_false]
  by_cases k7 : wiI x.k 0 15 = 7
  · rw [t k7, cond_true]
    refine Sep.St s (i := 0) rfl rfl rfl fun w s => ?_
    simp only [List.set_cons_zero, List.set_cons_succ] at s
    exact plain _ _ _ w _ [0, 2, 3, 4, 5] (by unfold askP; simp only; rw [if_neg (by omega), if_neg (by omega), if_neg (by omega), if_neg (by omega), if_pos (.inl k7)]) (by decide) rfl s
  rw [f k7, cond_false]
  by_cases k8 : wiI x.k 0 15 = 8
  · rw [t k8, cond_true]
    refine Sep.St s (i := 0) rfl rfl rfl fun w s => ?_
    simp only [List.set_cons_zero, List.set_cons_succ] at s
    exact plain _ _ _ w _ [0, 2, 3, 4, 5] (by unfold askP; simp only; rw [if_neg (by omega), if_neg (by omega), if_neg (by omega), if_neg (by omega), if_pos (.inr k8)]) (by decide) rfl s
  rw [f k8, cond_false]
  by_cases k9 : wiI x.k 0 15 = 9
  · rw [t k9, cond_true]
    refine Sep.St s (i := 0) rfl rfl rfl fun w s => ?_
    refine Sep.St s (i := 0) rfl rfl rfl fun w s => ?_
    refine Sep.St s (i := 0) rfl rfl rfl fun w s => ?_
    refine Sep.St s (i := 0) rfl rfl rfl fun w s => ?_
    simp only [List.set_cons_zero, List.set_cons_succ] at s
    exact plain _ _ _ w _ [0, 2, 3, 4, 5] (by unfold askP; simp only; rw [if_neg (by omega), if_neg (by omega), if_neg (by omega), if_neg (by omega), if_neg (by omega), if_pos k9]) (by decide) rfl s
  rw [f k9, cond_false]
  by_cases k10 : wiI x.k 0 15 = 10
  · rw [t k10, cond_true]
    refine Sep.LdI s (i := 1) rfl rfl rfl ?_
    refine ⟨by decide, ?_⟩
    by_cases h4 : Int.tmod x.a 4 = 0
    · rw [t h4, cond_true]
      refine Sep.LdI s (i := 1) rfl rfl rfl ?_
      refine ⟨by decide, ?_⟩
      refine Sep.LdI s (i := 1) rfl rfl rfl ?_
      have hm' := made_may (w := IntKind.wrap .i64 (mw + IntKind.wrap .i64 (Int.tdiv x.a 4))) (h := IntKind.wrap .i64 (mh + x.b)) hcs
      refine rMade.spec s (hC.fr (sep_fr s)) hcs hcn fun na nn nc w s _ => ?_
      have e : askP mw mh cs m x = (loadP (madeP (IntKind.wrap .i64 (mw + IntKind.wrap .i64 (Int.tdiv x.a 4))) (IntKind.wrap .i64 (mh + x.b)) cs), madeP (IntKind.wrap .i64 (mw + IntKind.wrap .i64 (Int.tdiv x.a 4))) (IntKind.wrap .i64 (mh + x.b)) cs) := by
        unfold askP
        simp only
        rw [if_neg (by omega), if_neg (by omega), if_neg (by omega), if_neg (by omega), if_neg (by omega), if_neg (by omega), if_pos k10, if_pos h4]
      generalize madeP (IntKind.wrap .i64 (mw + IntKind.wrap .i64 (Int.tdiv x.a 4))) (IntKind.wrap .i64 (mh + x.b)) cs = m' at *
      refine Sep.St s (i := 5) rfl rfl rfl fun w s => ?_
      refine Sep.St s (i := 5) rfl rfl rfl fun w s => ?_
      refine Sep.St s (i := 5) rfl rfl rfl fun w s => ?_
      simp only [List.set_cons_zero, List.set_cons_succ] at s
      refine Sep.LdS s (i := 5) rfl rfl rfl ?_
      refine Sep.LdI s (i := 5) rfl rfl rfl ?_
      refine Sep.LdI s (i := 5) rfl rfl rfl ?_
      refine Sep.LdS s (i := 5) rfl rfl rfl ?_
      have hN := Sep.sl s (i := 0) rfl by8_len (by decide)
      have hNl := hN.len
      refine rPutMap.spec s hN hm' fun pa pn pc w s _ => ?_
      refine Sep.St s (i := 2) rfl rfl rfl fun w s => ?_
      refine Sep.St s (i := 2) rfl rfl rfl fun w s => ?_
      refine Sep.St s (i := 2) rfl rfl rfl fun w s => ?_
      refine Sep.St s (i := 2) rfl rfl rfl fun w s => ?_
      simp only [List.set_cons_zero, List.set_cons_succ] at s
      have s := Sep.pick (L' := [_, _, _, _, _, _]) [2, 0, 4, 5, 6, 1] s rfl (by decide)
      rw [← hNl]
      exact md_b35 (v := ⟨1, 0, 0, pa, pn, pc⟩) (o := loadP m') ⟨rfl, rfl, rfl, (putMapP_ok hm').1⟩ hon hi s fun a' c' w s => by
        exact next m' _ _ a' c' na nn nc w e s
    · rw [f h4, cond_false]
      refine Sep.LdI s (i := 1) rfl rfl rfl ?_
      refine herdsmanref1_Within.spec (by decide) (by decide) (by decide) ?_
      have e20 : 0 + x.b % (200 - 0 + 1) = wiI x.b 0 200 := rfl
      rw [e20, wrap_i64 (n := 9 + wiI x.b 0 200) (by omega) (by omega)]
      refine Sep.St s (i := 0) rfl rfl rfl fun w s => ?_
      refine Sep.St s (i := 0) rfl rfl rfl fun w s => ?_
      refine Sep.St s (i := 0) rfl rfl rfl fun w s => ?_
      refine Sep.St s (i := 0) rfl rfl rfl fun w s => ?_
      simp only [List.set_cons_zero, List.set_cons_succ] at s
      exact plain _ _ _ w _ [0, 2, 3, 4, 5] (by unfold askP; simp only; rw [if_neg (by omega), if_neg (by omega), if_neg (by omega), if_neg (by omega), if_neg (by omega), if_neg (by omega), if_pos k10, if_neg h4]) (by decide) rfl s
  rw [f k10, cond_false]
  by_cases k11 : wiI x.k 0 15 = 11
  · rw [t k11, cond_true]
    refine Sep.LdI s (i := 1) rfl rfl rfl ?_
    refine Sep.LdI s (i := 1) rfl rfl rfl ?_
    refine Sep.LdI s (i := 1) rfl rfl rfl ?_
    refine rOdd.spec s (by omega) fun pa pn pc w s _ => ?_
    refine Sep.St s (i := 1) rfl rfl rfl fun w s => ?_
    refine Sep.St s (i := 1) rfl rfl rfl fun w s => ?_
    refine Sep.St s (i := 1) rfl rfl rfl fun w s => ?_
    refine Sep.St s (i := 1) rfl rfl rfl fun w s => ?_
    simp only [List.set_cons_zero, List.set_cons_succ] at s
    have s := Sep.pick (L' := [_, _, _, _, _, _]) [1, 0, 3, 4, 5, 6] s rfl (by decide)
    have hodd := ok_odd (x := x) (n := m.cs.length) (by omega)
    exact md_b35 (v := ⟨_, _, _, pa, pn, pc⟩) (o := oddP x m.cs.length) ⟨rfl, rfl, rfl, hodd.rng⟩ hon hi s fun a' c' w s =>
      next m _ _ a' c' ra rn rc w (by unfold askP; simp only; rw [if_neg (by omega), if_neg (by omega), if_neg (by omega), if_neg (by omega), if_neg (by omega), if_neg (by omega), if_neg k10, if_pos k11]) s
  rw [f k11, cond_false]
  refine Sep.St s (i := 0) rfl rfl rfl fun w s => ?_
  refine Sep.St s (i := 0) rfl rfl rfl fun w s => ?_
  refine Sep.St s (i := 0) rfl rfl rfl fun w s => ?_
  refine Sep.St s (i := 0) rfl rfl rfl fun w s => ?_
  simp only [List.set_cons_zero, List.set_cons_succ] at s
  exact plain _ _ _ w _ [0, 2, 3, 4, 5] (by unfold askP; simp only; rw [if_neg (by omega), if_neg (by omega), if_neg (by omega), if_neg (by omega), if_neg (by omega), if_neg (by omega), if_neg k10, if_neg k11]) (by decide) rfl s
attribute [local irreducible] herdsmanref26_Made.b9 in
theorem rMade26.spec (s0 : Sep F W w0 L) (hC : Sl w0 ca cn cc 1 by8 cs) (hcs : Rng cs) (hcn : cn < 9223372036854775808) (hX : Sl w0 la ln lc 3 askc xs)
    (h : ∀ oa on oc w', Sep F W w' L → Fr No w0 w' → Ops w' oa on oc (scriptP mw mh cs xs) → Q oa on oc w') : herdsmanref26_Made.call mw mh ca cn cc la ln lc w0 Q := by
  refine herdsmanref26_Made.body _ _ _ _ _ _ _ _ _ _ ?_
  unfold herdsmanref26_Made.sh
  have hxl := hX.len
  have hm0 := made_may (w := mw) (h := mh) hcs
  refine rMade.spec (Sep.nil (F := No) (w := w0)) hC hcs hcn fun ra rn rc w s _ => ?_
  refine Sep.Al s fun mb w s => ?_
  simp only [zcMap] at s
  refine Sep.St s (i := 0) rfl rfl rfl fun w s => ?_
  refine Sep.St s (i := 0) rfl rfl rfl fun w s => ?_
  refine Sep.St s (i := 0) rfl rfl rfl fun w s => ?_
  simp only [List.set_cons_zero, List.set_cons_succ] at s
  refine Sep.LdI s (i := 0) rfl rfl rfl ?_
  refine Sep.LdI s (i := 0) rfl rfl rfl ?_
  refine Sep.LdS s (i := 0) rfl rfl rfl ?_
  have hN := Sep.sl s (i := 1) rfl by8_len (by decide)
  have hNl := hN.len
  refine rPutMap.spec s hN hm0 fun pa pn pc w s _ => ?_
  refine Sep.Bx s fun ob w s => ?_
  have s := Sep.blk_row (n := 1) (size := 4) s (i := 0) rfl rfl (by decide) (opc_one ⟨1, 0, 0, pa, pn, pc⟩)
  simp only [List.set_cons_zero] at s
  refine Sep.LdS s (i := 2) rfl rfl rfl ?_
  have s : Sep No w0 w (rowA (some ⟨ob, 0, none⟩) 1 1 30 4 (flat opc ([((⟨1, 0, 0, pa, pn, pc⟩ : OpR), loadP (madeP mw mh cs))].map (·.1))) :: rowA pa pn pc 5 1 (flat by8 (loadP (madeP mw mh cs)).m) :: blkA mb 55 [.int .i64 (madeP mw mh cs).w, .int .i64 (madeP mw mh cs).h, .slice ra rn rc] :: rowA ra rn rc 5 1 (flat by8 (madeP mw mh cs).cs) :: []) := s
  have s := Sep.pick (L' := [_, _, _, _]) [1, 0, 2, 3] s rfl (by decide)
  have s := mapsA_add (es := []) (v := ⟨1, 0, 0, pa, pn, pc⟩) (o := loadP (madeP mw mh cs)) (mapsA_nil s) ⟨rfl, rfl, rfl, (putMapP_ok hm0).1⟩
  have s := Sep.perm s (List.Perm.swap ..)
  rw [← hNl]
  have hyl : (xs.take 60).length = min 60 ln := by rw [List.length_take, hxl]
  have loop : ∀ (k i : Nat) (m : MapP) (oa : Option Addr) (oc : Nat) (es : List (OpR × OpP)) (ra : Option Addr) (rn rc : Nat) (w : World), i + k = (xs.take 60).length → MayM m → es.map (·.2) ++ asksP mw mh cs m ((xs.take 60).drop i) = scriptP mw mh cs xs →
      Sep No w0 w (mdL oa (i + 1) oc es mb m ra rn rc) → herdsmanref26_Made.b5 Q (k + 1) mw mh ca cn cc la ln lc ⟨mb, 0, none⟩ oa (i + 1) oc (m.cs.length : Int) i w := by
    intro k
    induction k with
    | zero =>
      intro i m oa oc es ra rn rc w hi hm he s
      show herdsmanref26_Made.s5 Q (herdsmanref26_Made.b5 Q 0) _ _ _ _ _ _ _ _ _ _ _ _ _ _ _
      unfold herdsmanref26_Made.s5
      have done : Q oa (i + 1) oc w := by
        rw [List.drop_eq_nil_of_le (by omega)] at he
        simp only [asksP, List.append_nil] at he
        have k := maps_know s
        rw [he] at k
        exact h _ _ _ _ (Sep.call s0 (sep_fr s)) (sep_fr s) k
      by_cases h1 : i < ln
      · rw [decide_eq_true (by omega), cond_true, decide_eq_false (by omega), cond_false]
        exact done
      · rw [decide_eq_false (by omega), cond_false]
        exact done
    | succ k ih =>
      intro i m oa oc es ra rn rc w hi hm he s
      show herdsmanref26_Made.s5 Q (herdsmanref26_Made.b5 Q (k + 1)) _ _ _ _ _ _ _ _ _ _ _ _ _ _ _
      unfold herdsmanref26_Made.s5
      rw [decide_eq_true (by omega), cond_true, decide_eq_true (by omega), cond_true]
      have hms := may_size hm
      have hx0 : (xs.take 60)[i]? = some ((xs.take 60)[i]'(by omega)) := List.getElem?_eq_getElem _
      have hd : (xs.take 60).drop i = (xs.take 60)[i]'(by omega) :: (xs.take 60).drop (i + 1) := List.drop_eq_getElem_cons (by omega)
      generalize (xs.take 60)[i]'(by omega) = x at hx0 hd
      have hx1 : xs[i]? = some x := by
        rw [List.getElem?_take] at hx0
        split at hx0
        · exact hx0
        · cases hx0
      rw [hd, asksP] at he
      refine (hX.fr (sep_fr s)).El rfl (by omega) fun pp y hy hc => ?_
      rw [hx1] at hy
      cases hy
      refine LdI_cell (hc 0 _ rfl) ?_
      refine LdI_cell (hc 1 _ rfl) ?_
      refine LdI_cell (hc 2 _ rfl) ?_
      have go : ∀ (w : World) (ob xb : Nat) (A B : Int), A = wiI x.a 0 ((m.cs.length : Int) - 1) → B = wiI x.b 0 ((m.cs.length : Int) - 1) → Sep No w0 w (blkA ob 30 [.int .i64 0, .int .i64 A, .int .i64 B, .slice none 0 0] :: blkA xb 59 (askc x) :: mdL oa (i + 1) oc es mb m ra rn rc) →
          herdsmanref26_Made.b9 (herdsmanref26_Made.b5 Q (k + 1)) Q mw mh ca cn cc la ln lc ⟨mb, 0, none⟩ oa (i + 1) oc (m.cs.length : Int) i ⟨xb, 0, none⟩ ⟨ob, 0, none⟩ w := by
        intro w ob xb A B e1 e2 s
        subst e1 e2
        refine md_b9 hC hcs hcn hm (by omega) (by omega) s fun m' v o a' c' ra' rn' rc' w' e s => ?_
        have hok := (ask_ok (w := mw) (h := mh) hcs hm x).2
        rw [e] at he hok
        refine ih (i + 1) m' a' c' _ ra' rn' rc' w' (by omega) hok ?_ s
        rw [List.map_append, List.append_assoc]
        exact he
      refine Sep.Al s fun xb w s => ?_
      simp only [zcAsk] at s
      refine Sep.St s (i := 0) rfl rfl rfl fun w s => ?_
      refine Sep.St s (i := 0) rfl rfl rfl fun w s => ?_
      refine Sep.St s (i := 0) rfl rfl rfl fun w s => ?_
      simp only [List.set_cons_zero, List.set_cons_succ] at s
      rw [wrap_i64 (n := (m.cs.length : Int) - 1) (by omega) (by omega)]
      have s := Sep.drew s
      repeat' first
        | refine Sep.LdI s (i := 0) rfl rfl rfl ?_
        | refine Sep.LdS s (i := 0) rfl rfl rfl ?_
        | refine Sep.LdB s (i := 0) rfl rfl rfl ?_
        | refine Sep.LdP s (i := 0) rfl rfl rfl ?_
        | refine And.intro (Sep.cell s (i := 0) rfl rfl rfl) ?_
        | refine Sep.LdI s (i := 1) rfl rfl rfl ?_
        | refine Sep.LdS s (i := 1) rfl rfl rfl ?_
        | refine Sep.LdB s (i := 1) rfl rfl rfl ?_
        | refine Sep.LdP s (i := 1) rfl rfl rfl ?_
        | refine And.intro (Sep.cell s (i := 1) rfl rfl rfl) ?_
        | (refine Sep.St s (i := 0) rfl rfl rfl fun w s => ?_; simp only [List.set_cons_zero, List.set_cons_succ] at s)
        | (refine Sep.St s (i := 1) rfl rfl rfl fun w s => ?_; simp only [List.set_cons_zero, List.set_cons_succ] at s)
        | refine Sep.Bx s fun b w s => ?_
        | (refine Sep.Al s fun b w s => ?_; simp only [zcMap, zcTile, zcOp, zcAsk] at s)
        | exact go _ _ _ _ _ rfl rfl s
        | refine herdsmanref1_Within.spec (by omega) (by decide) (by omega) ?_
        | refine And.intro ?_ ?_
        | (replace s := Sep.drew s; first
          | refine Sep.LdI s (i := 0) rfl rfl rfl ?_
          | refine Sep.LdS s (i := 0) rfl rfl rfl ?_
          | refine Sep.LdB s (i := 0) rfl rfl rfl ?_
          | refine Sep.LdP s (i := 0) rfl rfl rfl ?_
          | refine And.intro (Sep.cell s (i := 0) rfl rfl rfl) ?_
          | refine Sep.LdI s (i := 1) rfl rfl rfl ?_
          | refine Sep.LdS s (i := 1) rfl rfl rfl ?_
          | refine Sep.LdB s (i := 1) rfl rfl rfl ?_
          | refine Sep.LdP s (i := 1) rfl rfl rfl ?_
          | refine And.intro (Sep.cell s (i := 1) rfl rfl rfl) ?_
          | (refine Sep.St s (i := 0) rfl rfl rfl fun w s => ?_; simp only [List.set_cons_zero, List.set_cons_succ] at s)
          | (refine Sep.St s (i := 1) rfl rfl rfl fun w s => ?_; simp only [List.set_cons_zero, List.set_cons_succ] at s)
          | refine Sep.Bx s fun b w s => ?_
          | (refine Sep.Al s fun b w s => ?_; simp only [zcMap, zcTile, zcOp, zcAsk] at s)
          | exact go _ _ _ _ _ rfl rfl s
          | refine herdsmanref1_Within.spec (by omega) (by decide) (by omega) ?_
          | refine And.intro ?_ ?_)
  exact ⟨(xs.take 60).length + 1, loop _ 0 _ _ 1 _ ra rn rc w (by omega) hm0 rfl s⟩
end
end Go.Proofs.Ytjndgflalbcngaa.S
