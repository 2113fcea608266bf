/- Layer 26: OpCuts answers true. -/
import Derived.Test.YtjndgflalbcngaaOJ
set_option linter.unusedVariables false
set_option linter.unusedSimpArgs false
namespace Go.Proofs.Ytjndgflalbcngaa.S
open Go.Sx
attribute [local irreducible] LdI LdB LdStr LdP LdS LdM LdV St Bx Al App Cpy MkS MkM EqK RunK RunU CallK SlK blkA rowA joinA mapA
theorem read_short {o : OpP} (h : mayP o = true) (hc : ¬ isCut o) (hr : Rng o.m) {q : Nat} (hq : q < (wrP o).length) : (readP ((wrP o).take q)).2 = 0 := by
  refine Classical.byContradiction fun hu => ?_
  obtain ⟨h1, h2, h3, h4, _⟩ := wr_read ((wrP_rng hr).take q) hu
  have e1 := read_wr h hc []
  have e2 := read_wr h1 h2 (((wrP o).take q).drop (readP ((wrP o).take q)).2 ++ (wrP o).drop q)
  rw [h3, ← List.append_assoc, List.take_append_drop, List.take_append_drop] at e2
  rw [List.append_nil, e2] at e1
  have e3 := congrArg Prod.snd e1
  simp only [List.length_take] at e3
  rw [List.length_take] at h4
  omega
/-- Where an op's bytes begin. -/
def atP (X : List OpP) (i : Nat) : Nat := ((X.take i).flatMap wrP).length
theorem flat_cut (X : List OpP) (i : Nat) : X.flatMap wrP = (X.take i).flatMap wrP ++ (X.drop i).flatMap wrP := by
  rw [← List.flatMap_append, List.take_append_drop]
theorem atP_succ {X : List OpP} {i : Nat} {o : OpP} (h : X[i]? = some o) : atP X (i + 1) = atP X i + (wrP o).length := by
  unfold atP
  rw [List.take_add_one, h, List.flatMap_append, List.length_append]
  simp
theorem atP_le (X : List OpP) (i : Nat) : atP X i ≤ (X.flatMap wrP).length := by
  rw [flat_cut X i, List.length_append]
  exact Nat.le_add_right _ _
theorem dec_at {X : List OpP} (h : ∀ o ∈ X, OkOp o) (i : Nat) : dec ((X.flatMap wrP).take (atP X i)) = X.take i := by
  rw [flat_cut X i, take_app (l := (X.take i).flatMap wrP) (n := atP X i) rfl]
  exact dec_flat fun o ho => h o (List.mem_of_mem_take ho)
theorem wrP_pos {o : OpP} (h : OkOp o) : 0 < (wrP o).length := by
  refine Nat.pos_of_ne_zero fun e => ?_
  have e1 := read_wr h.may h.whole []
  have := List.eq_nil_of_length_eq_zero e
  rw [this] at e1
  have hu : o = ⟨0, 0, 0, []⟩ := (congrArg Prod.fst e1).symm
  subst hu
  simp [wrP] at this
theorem dec_part {X : List OpP} (h : ∀ o ∈ X, OkOp o) {i t : Nat} {o : OpP} (hx : X[i]? = some o) (h1 : atP X i < t) (h2 : t < atP X i + (wrP o).length) :
    dec ((X.flatMap wrP).take t) = X.take i ++ [⟨0, -1, 0, ((X.flatMap wrP).drop (atP X i)).take (t - atP X i)⟩] := by
  obtain ⟨hil, ho'⟩ := List.getElem?_eq_some_iff.1 hx
  have hd : X.drop i = o :: X.drop (i + 1) := by rw [List.drop_eq_getElem_cons hil, ho']
  have ho := h o (List.mem_of_getElem? hx)
  rw [flat_cut X i, drop_app (l := (X.take i).flatMap wrP) (n := atP X i) rfl, hd, List.flatMap_cons]
  have e1 : ((X.take i).flatMap wrP ++ (wrP o ++ (X.drop (i + 1)).flatMap wrP)).take t = (X.take i).flatMap wrP ++ (wrP o).take (t - atP X i) := by
    rw [List.take_append, List.take_of_length_le (by have : atP X i = ((X.take i).flatMap wrP).length := rfl; omega)]
    congr 1
    exact List.take_append_of_le_length (by have : atP X i = ((X.take i).flatMap wrP).length := rfl; omega)
  have e2 : (wrP o ++ (X.drop (i + 1)).flatMap wrP).take (t - atP X i) = (wrP o).take (t - atP X i) := List.take_append_of_le_length (by omega)
  rw [e1, e2, dec_app (fun o ho => ⟨(h o (List.mem_of_mem_take ho)).may, (h o (List.mem_of_mem_take ho)).whole⟩), dec_cut]
  · intro e
    have := congrArg List.length e
    rw [List.length_take, List.length_nil] at this
    omega
  · exact read_short ho.may ho.whole ho.rng (by omega)
section
variable {W w1 w : World} {ra ba ya : Option Addr} {rn rc bn bc yn yc : Nat} {X : List OpP} {t : Nat} {Q : Bool → World → Prop}
theorem Cuts_b18 {i : Nat} (hO : Ops w1 ra rn rc X) (hD : Ops w1 ya yn yc (X.take i)) (hi : i ≤ rn) (hi2 : i ≤ 1000) (hQ : ∀ w', Sep No w1 w' [] → Q true w') (s : Sep No w1 w []) :
    herdsmanlaw26_OpCuts.b18 Q ra rn rc ya yn yc i w := by
  unfold herdsmanlaw26_OpCuts.b18
  refine told.spec s fun w s _ => ?_
  rw [cond_true]
  refine hO.hi rfl hi fun pa pc hA => ?_
  have hDl := hD.len
  rw [List.length_take] at hDl
  refine ref_SameAll.spec s (hD.fr (sep_fr s)) (hA.fr (sep_fr s)) (by omega) fun w s _ => ?_
  rw [decide_eq_true rfl]
  exact hQ _ s
attribute [local irreducible] herdsmanlaw26_OpCuts.b18 in
theorem Cuts_loop (hok : ∀ o ∈ X, OkOp o) (hxl : rn ≤ 1000) (hO : Ops w1 ra rn rc X) (hB : Sl w1 ba bn bc 1 by8 (X.flatMap wrP)) (hbn : bn ≤ 1000000000) (ht : t ≤ bn) (hD : Ops w1 ya yn yc (dec ((X.flatMap wrP).take t))) (hQ : ∀ w', Sep No w1 w' [] → Q true w') :
    ∀ (m i : Nat) (w : World), i + m = rn → atP X i ≤ t → Sep No w1 w [] → herdsmanlaw26_OpCuts.b9 Q (m + 1) ra rn rc ba bn bc t ya yn yc i (atP X i : Nat) w := by
  have hXl := hO.len
  have hbl := hB.len
  intro m
  induction m with
  | zero =>
    intro i w hi hat s
    show herdsmanlaw26_OpCuts.s9 Q (herdsmanlaw26_OpCuts.b9 Q 0) _ _ _ _ _ _ _ _ _ _ _ _ _
    unfold herdsmanlaw26_OpCuts.s9
    rw [decide_eq_false (by omega), cond_false]
    have e : t = atP X i := by
      have : atP X i = (X.flatMap wrP).length := by unfold atP; rw [List.take_of_length_le (by omega)]
      omega
    rw [e, dec_at hok] at hD
    exact Cuts_b18 hO hD (by omega) (by omega) hQ s
  | succ m ih =>
    intro i w hi hat s
    show herdsmanlaw26_OpCuts.s9 Q (herdsmanlaw26_OpCuts.b9 Q (m + 1)) _ _ _ _ _ _ _ _ _ _ _ _ _
    unfold herdsmanlaw26_OpCuts.s9
    rw [decide_eq_true (by omega), cond_true, wrap_i64 (n := (i : Int) + 1) (by omega) (by omega)]
    obtain ⟨o, hx⟩ : ∃ o, X[i]? = some o := ⟨_, List.getElem?_eq_getElem (by omega)⟩
    obtain ⟨hil, ho'⟩ := List.getElem?_eq_some_iff.1 hx
    have hd : X.drop i = o :: X.drop (i + 1) := by rw [List.drop_eq_getElem_cons hil, ho']
    have ho := hok o (List.mem_of_getElem? hx)
    have hpos := wrP_pos ho
    have hsu := atP_succ hx
    have hle := atP_le X (i + 1)
    refine (hO.fr (sep_fr s)).mid (p := i) (q := i + 1) rfl rfl (by omega) (by omega) fun a' n' c' hn' hA => ?_
    rw [hd, show i + 1 - i = 1 by omega] at hA
    have hA : Ops w a' n' c' [o] := hA
    have ee : encP [o] = some (wrP o ++ []) := by
      have := enc_ok (X := [o]) (fun o' h' => by rw [List.mem_singleton.1 h']; exact ho)
      simpa using this
    rw [List.append_nil] at ee
    refine op_Encode.spec s hA (by omega) (fun o' h' => by rw [List.mem_singleton.1 h']; have := ho.len; omega) (fun e => by rw [ee] at e; cases e) fun bs e da dn dc w s _ => ?_
    rw [ee] at e
    cases e
    have hdl := (Sep.sl s (i := 0) rfl by8_len (by decide)).len
    rw [show ((0 : Int) != 0) = false from rfl, cond_false, show ((dn : Int) == 0) = false by rw [beq_eq_false_iff_ne]; omega, cond_false, wrap_i64 (n := (atP X i : Int) + dn) (by omega) (by omega)]
    have s := Sep.drop s
    by_cases hc : atP X i + dn > t
    · rw [decide_eq_true (by omega), cond_true]
      by_cases h0 : atP X i = t
      · rw [show ((atP X i : Int) == (t : Int)) = true by rw [beq_iff_eq]; omega, cond_true]
        rw [← h0, dec_at hok] at hD
        exact Cuts_b18 hO hD (by omega) (by omega) hQ s
      · rw [show ((atP X i : Int) == (t : Int)) = false by rw [beq_eq_false_iff_ne]; omega, cond_false]
        rw [dec_part hok hx (by omega) (by omega)] at hD
        have hDl := hD.len
        rw [List.length_append, List.length_take, List.length_singleton] at hDl
        refine told.spec (Sep.drew s) fun w s _ => ?_
        rw [cond_true, show ((yn : Int) == (i : Int) + 1) = true by rw [beq_iff_eq]; omega, cond_true]
        refine hD.hi (m := i) rfl (by omega) fun y1 z1 hY => ?_
        rw [List.take_append_of_le_length (by rw [List.length_take]; omega), List.take_take, Nat.min_self] at hY
        refine hO.hi (m := i) rfl (by omega) fun x1 z2 hZ => ?_
        refine ref_SameAll.spec s (hY.fr (sep_fr s)) (hZ.fr (sep_fr s)) (by omega) fun w s _ => ?_
        rw [decide_eq_true rfl, cond_true]
        have hlast : ∀ o', (X.take i ++ [(⟨0, -1, 0, ((X.flatMap wrP).drop (atP X i)).take (t - atP X i)⟩ : OpP)])[i]? = some o' → o' = ⟨0, -1, 0, ((X.flatMap wrP).drop (atP X i)).take (t - atP X i)⟩ := fun o' h' => by
          rw [List.getElem?_append_right (by rw [List.length_take]; omega), List.length_take, show i - min i X.length = 0 by omega] at h'
          cases h'
          rfl
        refine hD.Elf (sep_fr s) rfl (by omega) fun p o1 va vn vc h1 hv hr hc => ?_
        obtain rfl := hlast _ h1
        refine LdI_cell (hc 0 _ rfl) ?_
        rw [show ((0 : Int) == 0) = true from rfl, cond_true]
        refine hD.Elf (sep_fr s) rfl (by omega) fun p o1 va vn vc h1 hv hr hc => ?_
        obtain rfl := hlast _ h1
        refine LdI_cell (hc 1 _ rfl) ?_
        rw [show ((-1 : Int) == -1) = true from rfl, cond_true]
        refine hD.Elf (sep_fr s) rfl (by omega) fun p o1 va vn vc h1 hv hr hc => ?_
        obtain rfl := hlast _ h1
        refine LdS_cell (hc 3 _ rfl) ?_
        refine (hB.fr (sep_fr s)).mid (p := atP X i) (q := t) rfl rfl (by omega) (by omega) fun b1 b2 b3 _ hB' => ?_
        refine ref_Bytes.spec (hv.fr (sep_fr s)) hB' hr hr ?_
        rw [decide_eq_true rfl]
        exact hQ _ s
    · rw [decide_eq_false (by omega), cond_false]
      have e : (atP X i : Int) + dn = (atP X (i + 1) : Nat) := by omega
      rw [e]
      exact ih (i + 1) w (by omega) (by omega) s
theorem herdsmanlaw26_OpCuts.spec {mw mh cut : Int} {ca la : Option Addr} {cn cc ln lc : Nat} {cs : List Int} {xs : List AskQ}
    (hC : Sl W ca cn cc 1 by8 cs) (hcs : Rng cs) (hcn : cn < 9223372036854775808) (hX : Sl W la ln lc 3 askc xs) (hQ : ∀ w', Sep No W w' [] → Q true w') : herdsmanlaw26_OpCuts.call mw mh ca cn cc la ln lc cut W Q := by
  refine herdsmanlaw26_OpCuts.body _ _ _ _ _ _ _ _ _ _ _ ?_
  unfold herdsmanlaw26_OpCuts.sh
  refine hX.hi (m := min ln 20) (by unfold imin; split <;> omega) (by omega) fun a1 c1 hX1 => ?_
  have s0 : Sep No W W.drew [] := Sep.drew (Sep.nil (F := No) (w := W))
  refine herdsmanref1_Within.spec (by decide) (by decide) (by decide) ?_
  refine herdsmanref1_Within.spec (by decide) (by decide) (by decide) ?_
  generalize (1 + mw % (9 - 1 + 1)) = mw'
  generalize (1 + mh % (9 - 1 + 1)) = mh'
  refine rMade26.spec s0 hC.drew hcs hcn hX1.drew fun ra rn rc w1 s1 _ hO => ?_
  have hok := script_ok (w := mw') (h := mh') hcs (xs.take (min ln 20))
  have hlen := script_len mw' mh' cs (xs.take (min ln 20))
  generalize scriptP mw' mh' cs (xs.take (min ln 20)) = X at *
  have hXl := hO.len
  have hl := flat_len hok
  refine op_Encode.spec s1 hO (by omega) (fun o ho => by have := (hok o ho).len; omega) (fun e => by rw [enc_ok hok] at e; cases e) fun bs e ba bn bc w s f1 => ?_
  rw [enc_ok hok] at e
  cases e
  have hB := Sep.sl s (i := 0) rfl by8_len (by decide)
  have hBl := hB.len
  rw [show ((0 : Int) != 0) = false from rfl, cond_false]
  refine herdsmanref1_Within.spec (by omega) (by decide) (by omega) ?_
  have hcut := within_range (n := cut) (lo := 0) (hi := (bn : Int)) (by omega)
  generalize 0 + cut % ((bn : Int) - 0 + 1) = t at *
  obtain ⟨k, rfl⟩ : ∃ k : Nat, t = k := ⟨t.toNat, by omega⟩
  refine hB.hi rfl (by omega) fun pa pc hA => ?_
  refine op_Decode.spec s hA ((flat_rng hok).take k) (by omega) fun ya yn yc w2 s f2 hD => ?_
  have f3 := sep_fr s
  refine ⟨rn + 1, Cuts_loop hok (by omega) ((hO.fr f1).fr f2) (hB.fr f2) (by omega) (by omega) hD (fun w' s => hQ w' (Sep.call (Sep.call Sep.nil f3) (sep_fr s))) rn 0 w2 (by omega) (Nat.zero_le _) Sep.nil⟩
end
theorem OpCuts_law : LawOk P 7 [.int .i64, .int .i64, .sl 1 (.int .u8), .sl 3 askS, .int .i64] := by
  intro W args h
  obtain ⟨v0, r, rfl, h0, h⟩ := RdAll.cons h
  obtain ⟨v1, r, rfl, h1, h⟩ := RdAll.cons h
  obtain ⟨v2, r, rfl, h2, h⟩ := RdAll.cons h
  obtain ⟨v3, r, rfl, h3, h⟩ := RdAll.cons h
  obtain ⟨v4, r, rfl, h4, h⟩ := RdAll.cons h
  obtain rfl := RdAll.nil h
  obtain ⟨x0, rfl, _⟩ := rdV_int h0
  obtain ⟨x1, rfl, _⟩ := rdV_int h1
  obtain ⟨x4, rfl, _⟩ := rdV_int h4
  obtain ⟨a, n, c, cs, rfl, q1, q2, q3, q4, q5⟩ := rdV_ints h2
  obtain ⟨b, m, d, xs, rfl, k1, k2⟩ := rdV_asks h3
  exact herdsmanlaw26_OpCuts.spec (Q := fun r W' => r = true ∧ Go.RowKit.Below W.heap.size W W') ⟨q4, q1, q3⟩ (fun x hx => wf_u8 (q5 x hx)) (by simp only [maxLen] at *; omega) k2 fun w' s => ⟨rfl, sep_below s⟩
end Go.Proofs.Ytjndgflalbcngaa.S
