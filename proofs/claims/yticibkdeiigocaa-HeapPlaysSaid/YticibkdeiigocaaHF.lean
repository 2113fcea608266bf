/- Layer 13: HeapTurns answers true. -/
import Derived.Test.YticibkdeiigocaaHE
import Derived.Test.YticibkdeiigocaaSxK
set_option linter.unusedVariables false
set_option linter.unusedSimpArgs false
namespace Go.Proofs.Yticibkdeiigocaa.S
open Go.Sx
attribute [local irreducible] LdI LdB LdStr LdP LdS LdM LdV St Bx Al App Cpy MkS MkM EqK RunK RunU CallK SlK blkA rowA heapA
def one (x : Int) : List Value := [.int .i64 x]
def gi (l : List Int) (i : Nat) : Int := l.getD i 0
theorem gi_get {l : List Int} {i : Nat} (h : i < l.length) : l[i]? = some (gi l i) := by
  rw [gi, List.getD_eq_getElem?_getD, List.getElem?_eq_getElem h]; rfl
theorem rot_eq {len n : Nat} (hn : n ≤ len) : (List.range len).map (fun k => (k + n) % len) = (List.range len).drop n ++ (List.range len).take n := by
  apply List.ext_getElem?
  intro k
  rw [List.getElem?_map]
  by_cases hk : k < len
  · rw [List.getElem?_range hk]
    by_cases h : k < len - n
    · rw [List.getElem?_append_left (by simp; omega), List.getElem?_drop, List.getElem?_range (by omega)]
      simp only [Option.map_some]
      rw [Nat.mod_eq_of_lt (by omega), Nat.add_comm]
    · rw [List.getElem?_append_right (by simp; omega), List.length_drop, List.length_range, List.getElem?_take, if_pos (by omega), List.getElem?_range (by omega)]
      simp only [Option.map_some]
      have : k + n = (k - (len - n)) + len := by omega
      rw [this, Nat.add_mod_right, Nat.mod_eq_of_lt (by omega)]
  · rw [List.getElem?_eq_none (by simp; omega), List.getElem?_eq_none (by simp; omega)]
    rfl
theorem rot_perm {len n : Nat} (hn : n ≤ len) : ((List.range len).map (fun k => (k + n) % len)).Perm (List.range len) := by
  rw [rot_eq hn]
  exact List.perm_append_comm.trans (by rw [List.take_append_drop])
section
variable {W : World} {L : List As} {Q : Bool → World → Prop} {la : Option Addr} {ln lc : Nat} {l : List Int}
theorem Turns_pops {pa pb : Nat} (hQ : ∀ w', Sep No W w' L → Q true w') : ∀ (m i : Nat) (w : World) (a b : Option Addr) (ca cb : Nat) (ea eb : List E), i + m = ln → ea.length = m → m ≤ 1000 → ln ≤ 1000 → ea.Perm eb → Sep No W w (heapA pb b cb eb :: heapA pa a ca ea :: L) →
    herdsmanlaw13_HeapTurns.b13 Q (m + 1) la ln lc (some ⟨pa, 0, none⟩) (some ⟨pb, 0, none⟩) i w := by
  intro m
  induction m with
  | zero =>
    intro i w a b ca cb ea eb hi hl hm hln hp s
    show herdsmanlaw13_HeapTurns.s13 Q (herdsmanlaw13_HeapTurns.b13 Q 0) _ _ _ _ _ _ _
    unfold herdsmanlaw13_HeapTurns.s13
    have hlb : eb.length = 0 := by rw [← hp.length_eq]; exact hl
    rw [decide_eq_false (by omega), cond_false]
    refine herdsmanlaw13_told.spec s fun w1 s => ?_
    rw [cond_true]
    refine heap_Len.spec s (i := 1) rfl ?_
    rw [hl, show (((0 : Nat) : Int) == 0) = true from rfl, cond_true]
    refine heap_Len.spec s (i := 0) rfl ?_
    rw [hlb]
    exact hQ w1 (Sep.drop (Sep.drop s))
  | succ m ih =>
    intro i w a b ca cb ea eb hi hl hm hln hp s
    show herdsmanlaw13_HeapTurns.s13 Q (herdsmanlaw13_HeapTurns.b13 Q (m + 1)) _ _ _ _ _ _ _
    unfold herdsmanlaw13_HeapTurns.s13
    have hlb : eb.length = m + 1 := by rw [← hp.length_eq]; exact hl
    rw [decide_eq_true (by omega), cond_true]
    have hha := heap_heap s (i := 1) rfl
    have hhb := heap_heap s (i := 0) rfl
    have he := least_eq hha hhb hp (by omega)
    refine heap_Pop.spec s (i := 1) rfl (by omega) (fun h => by rw [h] at hl; simp at hl) fun _ w1 a1 c1 e1 q1 s => ?_
    simp only [List.set_cons_zero, List.set_cons_succ] at s
    refine heap_Pop.spec s (i := 0) rfl (by omega) (fun h => by rw [h] at hlb; simp at hlb) fun _ w2 a2 c2 e2 q2 s => ?_
    simp only [List.set_cons_zero, List.set_cons_succ] at s
    rw [he]
    simp only [bne_self_eq_false, cond_false, Bool.not_true]
    rw [wrap_i64 (by omega) (by omega)]
    refine ih (i + 1) w2 a1 a2 c1 c2 e1 e2 (by omega) (by have := q1.length_eq; simp at this; omega) (by omega) hln ?_ s
    refine List.Perm.cons_inv (a := g eb 0) ?_
    rw [he] at q1
    exact q1.trans (hp.trans q2.symm)
def pick (l : List Int) (k : Nat) : E := (gi l k, (k : Int))
theorem Turns_pushes {n pa pb : Nat} (hA : ArgRow W la ln 1 one l) (hn : n ≤ ln) (hln : ln ≤ 60) (hQ : ∀ w', Sep No W w' L → Q true w') : ∀ (m i : Nat) (w : World) (a b : Option Addr) (ca cb : Nat) (ea eb : List E), i + m = ln →
    ea.Perm ((List.range i).map (pick l)) → eb.Perm (((List.range i).map (fun k => (k + n) % ln)).map (pick l)) → Sep No W w (heapA pb b cb eb :: heapA pa a ca ea :: L) →
    herdsmanlaw13_HeapTurns.b7 Q (m + 1) la ln lc n (some ⟨pa, 0, none⟩) (some ⟨pb, 0, none⟩) i w := by
  intro m
  induction m with
  | zero =>
    intro i w a b ca cb ea eb hi hpa hpb s
    obtain rfl : i = ln := by omega
    show herdsmanlaw13_HeapTurns.s7 Q (herdsmanlaw13_HeapTurns.b7 Q 0) _ _ _ _ _ _ _ _
    unfold herdsmanlaw13_HeapTurns.s7
    rw [decide_eq_false (by omega), cond_false]
    refine ⟨i + 1, ?_⟩
    have hl : ea.length = i := by rw [hpa.length_eq]; simp
    exact Turns_pops hQ i 0 w a b ca cb ea eb (by omega) hl (by omega) (by omega) (hpa.trans ((hpb.trans ((rot_perm hn).map _)).symm)) s
  | succ m ih =>
    intro i w a b ca cb ea eb hi hpa hpb s
    show herdsmanlaw13_HeapTurns.s7 Q (herdsmanlaw13_HeapTurns.b7 Q (m + 1)) _ _ _ _ _ _ _ _
    unfold herdsmanlaw13_HeapTurns.s7
    rw [decide_eq_true (by omega), cond_true]
    have e1 : Int.tmod (IntKind.wrap .i64 ((i : Int) + (n : Int))) (ln : Int) = (((i + n) % ln : Nat) : Int) := by
      rw [wrap_i64 (by omega) (by omega), Int.tmod_eq_emod_of_nonneg (by omega)]
      rfl
    rw [e1, wrap_i64 (n := (i : Int) + 1) (by omega) (by omega)]
    have hll := hA.1
    have hj : (i + n) % ln < ln := Nat.mod_lt _ (by omega)
    obtain ⟨ad, rfl, hc⟩ := hA.2 i _ (gi_get (by omega))
    obtain ⟨ad', e2, hc'⟩ := hA.2 ((i + n) % ln) _ (gi_get (by omega))
    cases e2
    refine ⟨by omega, by omega, by omega, wA_some ?_⟩
    refine Sep.LdI_arg s (hc 0 _ rfl) ?_
    have hla : ea.length = i := by rw [hpa.length_eq]; simp
    have hlb : eb.length = i := by rw [hpb.length_eq]; simp
    refine heap_Push.spec s (i := 1) rfl (by omega) fun w1 a1 c1 e1 q1 s => ?_
    simp only [List.set_cons_zero, List.set_cons_succ] at s
    refine ⟨by omega, by omega, wA_some ?_⟩
    refine Sep.LdI_arg s (hc' 0 _ rfl) ?_
    refine heap_Push.spec s (i := 0) rfl (by omega) fun w2 a2 c2 e2 q2 s => ?_
    simp only [List.set_cons_zero, List.set_cons_succ] at s
    refine ih (i + 1) w2 a1 a2 c1 c2 e1 e2 (by omega) ?_ ?_ s
    · rw [List.range_succ, List.map_append]
      exact q1.trans (hpa.append_right _)
    · rw [List.range_succ, List.map_append, List.map_append]
      exact q2.trans (hpb.append_right _)
theorem herdsmanlaw13_HeapTurns.spec {ka : Option Addr} {kn kc : Nat} {turn : Int} {keys : List Int} (hA : ArgRow W ka kn 1 one keys) (hk : kn ≤ kc) (hQ : ∀ w', Sep No W w' [] → Q true w') : herdsmanlaw13_HeapTurns.call ka kn kc turn W Q := by
  refine herdsmanlaw13_HeapTurns.body _ _ _ _ _ _ ?_
  unfold herdsmanlaw13_HeapTurns.sh
  have hm : imin (kn : Int) 60 = ((min kn 60 : Nat) : Int) := by unfold imin; split <;> omega
  rw [hm]
  refine SlK_hi (m := min kn 60) rfl (by omega) ?_
  refine herdsmanref1_Within.spec (by omega) (by omega) (by omega) ?_
  have hr := within_range (n := turn) (lo := 0) (hi := ((min kn 60 : Nat) : Int)) (by omega)
  generalize (0 + turn % (((min kn 60 : Nat) : Int) - 0 + 1)) = r at hr
  obtain ⟨n, rfl⟩ : ∃ n : Nat, r = n := ⟨r.toNat, by omega⟩
  refine heap_New.spec (W := W) (F := No) (L := []) Sep.nil fun p1 w1 s => ?_
  refine heap_New.spec s fun p2 w2 s => isNone_pt (isNone_pt ?_)
  refine ⟨min kn 60 + 1, ?_⟩
  exact Turns_pushes (l := keys.take (min kn 60)) (hA.take (by omega)) (by omega) (by omega) hQ (min kn 60) 0 w2 none none 0 0 [] [] (by omega) (.refl _) (.refl _) s
end
theorem HeapTurns_law : LawOk P 5 [.sl 1 (.int .i64), .int .i64] := by
  intro W args h
  obtain ⟨v0, r, rfl, h0, h⟩ := RdAll.cons h
  obtain ⟨v1, r, rfl, h1, h⟩ := RdAll.cons h
  obtain rfl := RdAll.nil h
  obtain ⟨a, n, c, xs, rfl, k1, _, _, k4, _⟩ := rdV_ints h0
  obtain ⟨q, rfl, _⟩ := rdV_int h1
  exact herdsmanlaw13_HeapTurns.spec (Q := fun r W' => r = true ∧ Go.RowKit.Below W.heap.size W W') k4 k1 fun w' s => ⟨rfl, sep_below s⟩
end Go.Proofs.Yticibkdeiigocaa.S
