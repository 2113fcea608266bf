/- Layer 26: OpBack answers true. -/
import Derived.Test.YtjndgflalbcngaaMC
import Derived.Test.YtjndgflalbcngaaOI
set_option linter.unusedVariables false
set_option linter.unusedSimpArgs false
namespace Go.Proofs.Ytjndgflalbcngaa.S
open Go.Sx
attribute [local irreducible] LdI LdB LdStr LdP LdS LdM LdV St Bx Al App Cpy MkS MkM EqK RunK RunU CallK SlK blkA rowA joinA mapA
section
variable {w : World} {a : Option Addr} {n c m : Nat} {os : List OpP} {K : Option Addr → Nat → Nat → Prop}
theorem Ops.hi {l : Int} (h : Ops w a n c os) (hl : l = m) (hm : m ≤ n) (k : ∀ a' c', Ops w a' m c' (os.take m) → K a' m c') : SlK a n c 4 none (some l) K := by
  obtain ⟨vs, h1, h2, h3⟩ := h
  refine h1.hi hl hm fun a' c' s => k a' c' ⟨_, s, by rw [List.length_take]; omega, fun i v o hv ho => ?_⟩
  rw [List.getElem?_take] at hv ho
  split at hv
  · rw [if_pos ‹_›] at ho
    exact h3 i v o hv ho
  · cases hv
theorem Ops.lo {l : Int} (h : Ops w a n c os) (hl : l = m) (hm : m ≤ n) (k : ∀ a' n' c', n' = n - m → Ops w a' n' c' (os.drop m) → K a' n' c') : SlK a n c 4 (some l) none K := by
  obtain ⟨vs, h1, h2, h3⟩ := h
  refine h1.lo hl hm fun a' n' c' e s => k a' n' c' e ⟨_, s, by rw [List.length_drop]; omega, fun i v o hv ho => ?_⟩
  rw [List.getElem?_drop] at hv ho
  exact h3 _ v o hv ho
theorem Ops.mid {l t : Int} {p q : Nat} (h : Ops w a n c os) (hl : l = p) (ht : t = q) (hpq : p ≤ q) (hq : q ≤ n) (k : ∀ a' n' c', n' = q - p → Ops w a' n' c' ((os.drop p).take (q - p)) → K a' n' c') : SlK a n c 4 (some l) (some t) K := by
  obtain ⟨vs, h1, h2, h3⟩ := h
  refine h1.mid hl ht hpq hq fun a' n' c' e s => k a' n' c' e ⟨_, s, by rw [List.length_take, List.length_drop]; omega, fun i v o hv ho => ?_⟩
  rw [List.getElem?_take] at hv ho
  split at hv
  · rw [if_pos ‹_›] at ho
    rw [List.getElem?_drop] at hv ho
    exact h3 _ v o hv ho
  · cases hv
end
theorem dec_flat {X : List OpP} (h : ∀ o ∈ X, OkOp o) : dec (X.flatMap wrP) = X := by
  have := dec_app (fun o ho => ⟨(h o ho).may, (h o ho).whole⟩) []
  rwa [List.append_nil, dec_nil, List.append_nil] at this
theorem enc_ok {X : List OpP} (h : ∀ o ∈ X, OkOp o) : encP X = some (X.flatMap wrP) :=
  encP_of (fun o ho => (h o ho).may) (fun i o ho _ => (h o (List.mem_of_getElem? ho)).whole)
theorem flat_rng {X : List OpP} (h : ∀ o ∈ X, OkOp o) : Rng (X.flatMap wrP) := encP_rng (fun o ho => (h o ho).rng) (enc_ok h)
theorem flat_len {X : List OpP} (h : ∀ o ∈ X, OkOp o) : (X.flatMap wrP).length ≤ X.length * 1100020 := by
  induction X with
  | nil => simp
  | cons o X ih =>
    have h1 := (h o (by simp)).len
    have h2 := wrP_len o
    have h3 := ih fun o ho => h o (by simp [ho])
    rw [List.flatMap_cons, List.length_append, List.length_cons]
    omega
def askS : Sh := .agg 3 [(0, 1, .int .i64), (1, 1, .int .i64), (2, 1, .int .i64)]
theorem rdV_asks {W : World} {v : Value} (h : RdV W (.sl 3 askS) v) : ∃ a n c xs, v = .slice a n c ∧ n ≤ maxLen ∧ Sl W a n c 3 askc xs := by
  obtain ⟨a, n, c, xs, rfl, k1, k2, k3, k4, k5⟩ := rdV_row (f := askc) (Pr := fun _ => True) (fun es hl he => by
    obtain ⟨_, he⟩ := rd_agg he
    match es, hl with
    | [v0, v1, v2], _ =>
      obtain ⟨k0, he⟩ := rdF_cons he
      obtain ⟨k1, he⟩ := rdF_cons he
      obtain ⟨k2, he⟩ := rdF_cons he
      obtain ⟨x0, rfl, _⟩ := rd_int (w := W) k0
      obtain ⟨x1, rfl, w1⟩ := rd_int (w := W) k1
      obtain ⟨x2, rfl, w2⟩ := rd_int (w := W) k2
      exact ⟨⟨x0, x1, x2⟩, rfl, trivial⟩) h
  exact ⟨a, n, c, xs, rfl, by omega, k4, k1, k3⟩
theorem herdsmanlaw26_OpBack.spec {W : World} {mw mh cut : Int} {ca la : Option Addr} {cn cc ln lc : Nat} {cs : List Int} {xs : List AskQ} {Q : Bool → World → Prop}
    (hC : Sl W ca cn cc 1 by8 cs) (hcs : Rng cs) (hcn : cn < 9223372036854775808) (hX : Sl W la ln lc 3 askc xs) (hQ : ∀ w', Sep No W w' [] → Q true w') : herdsmanlaw26_OpBack.call mw mh ca cn cc la ln lc cut W Q := by
  refine herdsmanlaw26_OpBack.body _ _ _ _ _ _ _ _ _ _ _ ?_
  unfold herdsmanlaw26_OpBack.sh
  refine hX.hi (m := min ln 40) (by unfold imin; split <;> omega) (by omega) fun a1 c1 hX1 => ?_
  refine rMade26.spec (Sep.nil (F := No) (w := W)) hC hcs hcn hX1 fun ra rn rc w1 _ f hO => ?_
  have hok := script_ok (w := mw) (h := mh) hcs (xs.take (min ln 40))
  have hlen := script_len mw mh cs (xs.take (min ln 40))
  generalize scriptP mw mh cs (xs.take (min ln 40)) = X at *
  have hXl := hO.len
  have hQ : ∀ w', Sep No w1 w' [] → Q true w' := fun w' s => hQ w' (Sep.call (Sep.call Sep.nil f) (sep_fr s))
  refine herdsmanref1_Within.spec (by omega) (by decide) (by omega) ?_
  have hcut := within_range (n := cut) (lo := 0) (hi := (rn : Int)) (by omega)
  generalize 0 + cut % ((rn : Int) - 0 + 1) = t at *
  obtain ⟨k, rfl⟩ : ∃ k : Nat, t = k := ⟨t.toNat, by omega⟩
  have hok1 : ∀ o ∈ X.take k, OkOp o := fun o ho => hok o (List.mem_of_mem_take ho)
  have hok2 : ∀ o ∈ X.drop k, OkOp o := fun o ho => hok o (List.mem_of_mem_drop ho)
  have l1 := flat_len hok1
  have l2 := flat_len hok2
  rw [List.length_take] at l1
  rw [List.length_drop] at l2
  refine hO.hi rfl (by omega) fun pa pc hA => ?_
  refine op_Encode.spec (Sep.nil (F := No) (w := w1)) hA (by omega) (fun o ho => by have := (hok1 o ho).len; omega) (fun e => by rw [enc_ok hok1] at e; cases e) fun bs e aa an ac w s _ => ?_
  rw [enc_ok hok1] at e
  cases e
  refine (hO.fr (sep_fr s)).lo rfl (by omega) fun da dn dc hdn hB => ?_
  refine op_Encode.spec s hB (by omega) (fun o ho => by have := (hok2 o ho).len; omega) (fun e => by rw [enc_ok hok2] at e; cases e) fun bs e ba bn bc w s _ => ?_
  rw [enc_ok hok2] at e
  cases e
  rw [show ((0 : Int) != 0) = false from rfl, cond_false, cond_false]
  have hla := (Sep.sl s (i := 1) rfl by8_len (by decide)).len
  have hlb := (Sep.sl s (i := 0) rfl by8_len (by decide)).len
  refine Sep.Bx s fun pb w s => ?_
  refine clone0 s (Sep.sl s (i := 2) rfl by8_len (by decide)) (by omega) fun ya yc w s => ?_
  refine appSl s (Sep.sl s (i := 1) rfl by8_len (by decide)) (by omega) fun ya yc w s => ?_
  have hXd : dec ((X.take k).flatMap wrP ++ (X.drop k).flatMap wrP) = X := by
    rw [← List.flatMap_append, List.take_append_drop]
    exact dec_flat hok
  refine op_Decode.spec s (Sep.sl s (i := 0) rfl by8_len (by decide)) (Rng.app (flat_rng hok1) (flat_rng hok2)) (by omega) fun oa on oc w s _ hD => ?_
  rw [hXd] at hD
  have hDl := hD.len
  refine told.spec (Sep.drew s) fun w s f => ?_
  rw [cond_true]
  refine ref_SameAll.spec s (hD.drew.fr f) (hO.fr (sep_fr s)) (by omega) fun w s _ => ?_
  rw [decide_eq_true rfl, cond_true]
  refine hO.hi rfl (by omega) fun pa pc hA => ?_
  refine op_Decode.spec s (Sep.sl s (i := 2) rfl by8_len (by decide)) (flat_rng hok1) (by omega) fun oa on oc w s _ hD => ?_
  rw [dec_flat hok1] at hD
  have hDl := hD.len
  refine ref_SameAll.spec s hD (hA.fr (sep_fr s)) (by rw [List.length_take] at hDl; omega) fun w s _ => ?_
  rw [decide_eq_true rfl]
  exact hQ _ (Sep.call Sep.nil (sep_fr s))
theorem OpBack_law : LawOk P 6 [.int .i64, .int .i64, .sl 1 (.int .u8), .sl 3 askS, .int .i64] := by
  intro W args h
  obtain ⟨v0, r, rfl, h0, h⟩ := RdAll.cons h
  obtain ⟨v1, r, rfl, h1, h⟩ := RdAll.cons h
  obtain ⟨v2, r, rfl, h2, h⟩ := RdAll.cons h
  obtain ⟨v3, r, rfl, h3, h⟩ := RdAll.cons h
  obtain ⟨v4, r, rfl, h4, h⟩ := RdAll.cons h
  obtain rfl := RdAll.nil h
  obtain ⟨x0, rfl, _⟩ := rdV_int h0
  obtain ⟨x1, rfl, _⟩ := rdV_int h1
  obtain ⟨x4, rfl, _⟩ := rdV_int h4
  obtain ⟨a, n, c, cs, rfl, q1, q2, q3, q4, q5⟩ := rdV_ints h2
  obtain ⟨b, m, d, xs, rfl, k1, k2⟩ := rdV_asks h3
  exact herdsmanlaw26_OpBack.spec (Q := fun r W' => r = true ∧ Go.RowKit.Below W.heap.size W W') ⟨q4, q1, q3⟩ (fun x hx => wf_u8 (q5 x hx)) (by simp only [maxLen] at *; omega) k2 fun w' s => ⟨rfl, sep_below s⟩
end Go.Proofs.Ytjndgflalbcngaa.S
