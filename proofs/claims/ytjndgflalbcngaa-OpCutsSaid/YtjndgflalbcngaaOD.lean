/- Layer 26: the document's Same, SameAll, number, long, Decode; told. -/
import Derived.Test.YtjndgflalbcngaaOC
import Derived.Test.YtjndgflalbcngaaXF2
set_option linter.unusedVariables false
set_option linter.unusedSimpArgs false
namespace Go.Proofs.Ytjndgflalbcngaa.S
open Go.Sx
attribute [local irreducible] LdI LdB LdStr LdP LdS LdM LdV St Bx Al App Cpy MkS MkM EqK RunK RunU CallK SlK blkA rowA joinA
theorem ref_In.spec {w : World} {m lo hi : Int} {Q : Bool → World → Prop} (h : Q (decide (lo ≤ m ∧ m ≤ hi)) w) : herdsmanref1_In.call m lo hi w Q := by
  refine herdsmanref1_In.body _ _ _ _ _ ?_
  unfold herdsmanref1_In.sh
  by_cases h1 : m ≥ lo
  · rw [decide_eq_true h1, cond_true, show decide (m ≤ hi) = decide (lo ≤ m ∧ m ≤ hi) from decide_eq_decide.2 (by omega)]
    exact h
  · rw [decide_eq_false h1, cond_false]
    rwa [decide_eq_false (by omega)] at h
section
variable {F : Nat → Prop} {W w : World} {L : List As} {a a' : Option Addr} {n c n' c' : Nat} {bs cs cs' : List Int}
theorem ref_Bytes.spec {Q : Bool → World → Prop} (hA : Sl w a n c 1 by8 cs) (hB : Sl w a' n' c' 1 by8 cs') (hcs : Rng cs) (hcs' : Rng cs') (h : Q (decide (cs = cs')) w) : herdsmanref1_Bytes.call a n c a' n' c' w Q := by
  refine herdsmanref1_Bytes.body _ _ _ _ _ _ _ _ ?_
  unfold herdsmanref1_Bytes.sh
  refine ArgRow.Str tab_ok hA.row rfl rfl rfl rfl rfl rfl (dStr_mk ?_)
  refine ArgRow.Str tab_ok hB.row rfl rfl rfl rfl rfl rfl (dStr_mk ?_)
  rw [strOf_beq hcs hcs']
  exact h
theorem ref_Same.spec {w0 : World} {v v' : OpR} {o o' : OpP} {Q : Bool → World → Prop} (s0 : Sep F W w0 L) (hv : OpV w0 v o) (hv' : OpV w0 v' o') (h : ∀ w', Sep F W w' L → Fr No w0 w' → Q (decide (o = o')) w') :
    herdsmanref26_Same.call v.k v.A v.B v.a v.n v.c v'.k v'.A v'.B v'.a v'.n v'.c w0 Q := by
  refine herdsmanref26_Same.body _ _ _ _ _ _ _ _ _ _ _ _ _ _ ?_
  unfold herdsmanref26_Same.sh
  have s := Sep.nil (F := No) (w := w0)
  have hh : ∀ w' Ls, Sep No w0 w' Ls → Q (decide (o = o')) w' := fun w' Ls s => h w' (Sep.call s0 (sep_fr s)) (sep_fr s)
  have e0 : (o = o') ↔ (v.k = v'.k ∧ v.A = v'.A ∧ v.B = v'.B ∧ o.m = o'.m) := by
    rw [hv.k, hv.A, hv.B, hv'.k, hv'.A, hv'.B]
    constructor
    · rintro rfl; exact ⟨rfl, rfl, rfl, rfl⟩
    · rintro ⟨h1, h2, h3, h4⟩
      cases o; cases o'
      simp only at h1 h2 h3 h4
      rw [h1, h2, h3, h4]
  repeat' first
    | refine Sep.LdI s (i := 0) rfl rfl rfl ?_
    | refine Sep.LdS s (i := 0) rfl rfl rfl ?_
    | refine Sep.LdB s (i := 0) rfl rfl rfl ?_
    | refine Sep.LdP s (i := 0) rfl rfl rfl ?_
    | refine And.intro (Sep.cell s (i := 0) rfl rfl rfl) ?_
    | refine Sep.LdI s (i := 1) rfl rfl rfl ?_
    | refine Sep.LdS s (i := 1) rfl rfl rfl ?_
    | refine Sep.LdB s (i := 1) rfl rfl rfl ?_
    | refine Sep.LdP s (i := 1) rfl rfl rfl ?_
    | refine And.intro (Sep.cell s (i := 1) rfl rfl rfl) ?_
    | (refine Sep.St s (i := 0) rfl rfl rfl fun w s => ?_; simp only [List.set_cons_zero, List.set_cons_succ] at s)
    | (refine Sep.St s (i := 1) rfl rfl rfl fun w s => ?_; simp only [List.set_cons_zero, List.set_cons_succ] at s)
    | refine Sep.Bx s fun b w s => ?_
    | (refine Sep.Al s fun b w s => ?_; simp only [zc30, zc47] at s)
    | (replace s := Sep.drew s; first
      | refine Sep.LdI s (i := 0) rfl rfl rfl ?_
      | refine Sep.LdS s (i := 0) rfl rfl rfl ?_
      | refine Sep.LdB s (i := 0) rfl rfl rfl ?_
      | refine Sep.LdP s (i := 0) rfl rfl rfl ?_
      | refine And.intro (Sep.cell s (i := 0) rfl rfl rfl) ?_
      | refine Sep.LdI s (i := 1) rfl rfl rfl ?_
      | refine Sep.LdS s (i := 1) rfl rfl rfl ?_
      | refine Sep.LdB s (i := 1) rfl rfl rfl ?_
      | refine Sep.LdP s (i := 1) rfl rfl rfl ?_
      | refine And.intro (Sep.cell s (i := 1) rfl rfl rfl) ?_
      | (refine Sep.St s (i := 0) rfl rfl rfl fun w s => ?_; simp only [List.set_cons_zero, List.set_cons_succ] at s)
      | (refine Sep.St s (i := 1) rfl rfl rfl fun w s => ?_; simp only [List.set_cons_zero, List.set_cons_succ] at s)
      | refine Sep.Bx s fun b w s => ?_
      | (refine Sep.Al s fun b w s => ?_; simp only [zc30, zc47] at s))
  by_cases h1 : v.k = v'.k
  · rw [show (v.k == v'.k) = true by rw [beq_iff_eq]; exact h1, cond_true]
    repeat' first
      | refine Sep.LdI s (i := 0) rfl rfl rfl ?_
      | refine Sep.LdS s (i := 0) rfl rfl rfl ?_
      | refine Sep.LdB s (i := 0) rfl rfl rfl ?_
      | refine Sep.LdP s (i := 0) rfl rfl rfl ?_
      | refine And.intro (Sep.cell s (i := 0) rfl rfl rfl) ?_
      | refine Sep.LdI s (i := 1) rfl rfl rfl ?_
      | refine Sep.LdS s (i := 1) rfl rfl rfl ?_
      | refine Sep.LdB s (i := 1) rfl rfl rfl ?_
      | refine Sep.LdP s (i := 1) rfl rfl rfl ?_
      | refine And.intro (Sep.cell s (i := 1) rfl rfl rfl) ?_
      | (refine Sep.St s (i := 0) rfl rfl rfl fun w s => ?_; simp only [List.set_cons_zero, List.set_cons_succ] at s)
      | (refine Sep.St s (i := 1) rfl rfl rfl fun w s => ?_; simp only [List.set_cons_zero, List.set_cons_succ] at s)
      | refine Sep.Bx s fun b w s => ?_
      | (refine Sep.Al s fun b w s => ?_; simp only [zc30, zc47] at s)
      | (replace s := Sep.drew s; first
        | refine Sep.LdI s (i := 0) rfl rfl rfl ?_
        | refine Sep.LdS s (i := 0) rfl rfl rfl ?_
        | refine Sep.LdB s (i := 0) rfl rfl rfl ?_
        | refine Sep.LdP s (i := 0) rfl rfl rfl ?_
        | refine And.intro (Sep.cell s (i := 0) rfl rfl rfl) ?_
        | refine Sep.LdI s (i := 1) rfl rfl rfl ?_
        | refine Sep.LdS s (i := 1) rfl rfl rfl ?_
        | refine Sep.LdB s (i := 1) rfl rfl rfl ?_
        | refine Sep.LdP s (i := 1) rfl rfl rfl ?_
        | refine And.intro (Sep.cell s (i := 1) rfl rfl rfl) ?_
        | (refine Sep.St s (i := 0) rfl rfl rfl fun w s => ?_; simp only [List.set_cons_zero, List.set_cons_succ] at s)
        | (refine Sep.St s (i := 1) rfl rfl rfl fun w s => ?_; simp only [List.set_cons_zero, List.set_cons_succ] at s)
        | refine Sep.Bx s fun b w s => ?_
        | (refine Sep.Al s fun b w s => ?_; simp only [zc30, zc47] at s))
    by_cases h2 : v.A = v'.A
    · rw [show (v.A == v'.A) = true by rw [beq_iff_eq]; exact h2, cond_true]
      repeat' first
        | refine Sep.LdI s (i := 0) rfl rfl rfl ?_
        | refine Sep.LdS s (i := 0) rfl rfl rfl ?_
        | refine Sep.LdB s (i := 0) rfl rfl rfl ?_
        | refine Sep.LdP s (i := 0) rfl rfl rfl ?_
        | refine And.intro (Sep.cell s (i := 0) rfl rfl rfl) ?_
        | refine Sep.LdI s (i := 1) rfl rfl rfl ?_
        | refine Sep.LdS s (i := 1) rfl rfl rfl ?_
        | refine Sep.LdB s (i := 1) rfl rfl rfl ?_
        | refine Sep.LdP s (i := 1) rfl rfl rfl ?_
        | refine And.intro (Sep.cell s (i := 1) rfl rfl rfl) ?_
        | (refine Sep.St s (i := 0) rfl rfl rfl fun w s => ?_; simp only [List.set_cons_zero, List.set_cons_succ] at s)
        | (refine Sep.St s (i := 1) rfl rfl rfl fun w s => ?_; simp only [List.set_cons_zero, List.set_cons_succ] at s)
        | refine Sep.Bx s fun b w s => ?_
        | (refine Sep.Al s fun b w s => ?_; simp only [zc30, zc47] at s)
        | (replace s := Sep.drew s; first
          | refine Sep.LdI s (i := 0) rfl rfl rfl ?_
          | refine Sep.LdS s (i := 0) rfl rfl rfl ?_
          | refine Sep.LdB s (i := 0) rfl rfl rfl ?_
          | refine Sep.LdP s (i := 0) rfl rfl rfl ?_
          | refine And.intro (Sep.cell s (i := 0) rfl rfl rfl) ?_
          | refine Sep.LdI s (i := 1) rfl rfl rfl ?_
          | refine Sep.LdS s (i := 1) rfl rfl rfl ?_
          | refine Sep.LdB s (i := 1) rfl rfl rfl ?_
          | refine Sep.LdP s (i := 1) rfl rfl rfl ?_
          | refine And.intro (Sep.cell s (i := 1) rfl rfl rfl) ?_
          | (refine Sep.St s (i := 0) rfl rfl rfl fun w s => ?_; simp only [List.set_cons_zero, List.set_cons_succ] at s)
          | (refine Sep.St s (i := 1) rfl rfl rfl fun w s => ?_; simp only [List.set_cons_zero, List.set_cons_succ] at s)
          | refine Sep.Bx s fun b w s => ?_
          | (refine Sep.Al s fun b w s => ?_; simp only [zc30, zc47] at s))
      by_cases h3 : v.B = v'.B
      · rw [show (v.B == v'.B) = true by rw [beq_iff_eq]; exact h3, cond_true]
        repeat' first
          | refine Sep.LdI s (i := 0) rfl rfl rfl ?_
          | refine Sep.LdS s (i := 0) rfl rfl rfl ?_
          | refine Sep.LdB s (i := 0) rfl rfl rfl ?_
          | refine Sep.LdP s (i := 0) rfl rfl rfl ?_
          | refine And.intro (Sep.cell s (i := 0) rfl rfl rfl) ?_
          | refine Sep.LdI s (i := 1) rfl rfl rfl ?_
          | refine Sep.LdS s (i := 1) rfl rfl rfl ?_
          | refine Sep.LdB s (i := 1) rfl rfl rfl ?_
          | refine Sep.LdP s (i := 1) rfl rfl rfl ?_
          | refine And.intro (Sep.cell s (i := 1) rfl rfl rfl) ?_
          | (refine Sep.St s (i := 0) rfl rfl rfl fun w s => ?_; simp only [List.set_cons_zero, List.set_cons_succ] at s)
          | (refine Sep.St s (i := 1) rfl rfl rfl fun w s => ?_; simp only [List.set_cons_zero, List.set_cons_succ] at s)
          | refine Sep.Bx s fun b w s => ?_
          | (refine Sep.Al s fun b w s => ?_; simp only [zc30, zc47] at s)
          | (replace s := Sep.drew s; first
            | refine Sep.LdI s (i := 0) rfl rfl rfl ?_
            | refine Sep.LdS s (i := 0) rfl rfl rfl ?_
            | refine Sep.LdB s (i := 0) rfl rfl rfl ?_
            | refine Sep.LdP s (i := 0) rfl rfl rfl ?_
            | refine And.intro (Sep.cell s (i := 0) rfl rfl rfl) ?_
            | refine Sep.LdI s (i := 1) rfl rfl rfl ?_
            | refine Sep.LdS s (i := 1) rfl rfl rfl ?_
            | refine Sep.LdB s (i := 1) rfl rfl rfl ?_
            | refine Sep.LdP s (i := 1) rfl rfl rfl ?_
            | refine And.intro (Sep.cell s (i := 1) rfl rfl rfl) ?_
            | (refine Sep.St s (i := 0) rfl rfl rfl fun w s => ?_; simp only [List.set_cons_zero, List.set_cons_succ] at s)
            | (refine Sep.St s (i := 1) rfl rfl rfl fun w s => ?_; simp only [List.set_cons_zero, List.set_cons_succ] at s)
            | refine Sep.Bx s fun b w s => ?_
            | (refine Sep.Al s fun b w s => ?_; simp only [zc30, zc47] at s))
        refine ref_Bytes.spec (hv.m.fr (sep_fr s)) (hv'.m.fr (sep_fr s)) hv.rng hv'.rng ?_
        rw [show decide (o.m = o'.m) = decide (o = o') from decide_eq_decide.2 (by rw [e0]; exact ⟨fun h => ⟨h1, h2, h3, h⟩, fun h => h.2.2.2⟩)]
        exact hh _ _ s
      · rw [show (v.B == v'.B) = false by rw [beq_eq_false_iff_ne]; exact h3, cond_false]
        have := hh _ _ s
        rwa [decide_eq_false (fun e => h3 (e0.1 e).2.2.1)] at this
    · rw [show (v.A == v'.A) = false by rw [beq_eq_false_iff_ne]; exact h2, cond_false]
      have := hh _ _ s
      rwa [decide_eq_false (fun e => h2 (e0.1 e).2.1)] at this
  · rw [show (v.k == v'.k) = false by rw [beq_eq_false_iff_ne]; exact h1, cond_false]
    have := hh _ _ s
    rwa [decide_eq_false (fun e => h1 (e0.1 e).1)] at this
theorem LdOp {w : World} {p : Addr} {v : OpR} {idx : Int} {K : Int → Int → Int → Option Addr → Nat → Nat → Prop} (hc : ∀ j u, (opc v)[j]? = some u → w.cell? ((p.add (idx.toNat * 4)).add j) = some u) (h : K v.k v.A v.B v.a v.n v.c) :
    LdI .i64 ((p.add (idx.toNat * 4)).add 0) w fun k => LdI .i64 ((p.add (idx.toNat * 4)).add 1) w fun A => LdI .i64 ((p.add (idx.toNat * 4)).add 2) w fun B => LdS ((p.add (idx.toNat * 4)).add 3) w fun a n c => K k A B a n c :=
  LdI_cell (hc 0 _ rfl) (LdI_cell (hc 1 _ rfl) (LdI_cell (hc 2 _ rfl) (LdS_cell (hc 3 _ rfl) h)))
theorem ref_SameAll.spec {w0 : World} {os os' : List OpP} {Q : Bool → World → Prop} (s0 : Sep F W w0 L) (hA : Ops w0 a n c os) (hB : Ops w0 a' n' c' os') (hn : n ≤ 1000000000) (h : ∀ w', Sep F W w' L → Fr No w0 w' → Q (decide (os = os')) w') :
    herdsmanref26_SameAll.call a n c a' n' c' w0 Q := by
  refine herdsmanref26_SameAll.body _ _ _ _ _ _ _ _ ?_
  unfold herdsmanref26_SameAll.sh
  have s := Sep.nil (F := No) (w := w0)
  have hh : ∀ w', Sep No w0 w' [] → Q (decide (os = os')) w' := fun w' s => h w' (Sep.call s0 (sep_fr s)) (sep_fr s)
  by_cases hl : n = n'
  · subst hl
    rw [bne_self_eq_false, cond_false]
    have loop : ∀ (m i : Nat) (w : World), i + m = n → (∀ j, j < i → os[j]? = os'[j]?) → Sep No w0 w [] → herdsmanref26_SameAll.b4 Q (m + 1) a n c a' n c' i w := by
      intro m
      induction m with
      | zero =>
        intro i w hi hlow s
        show herdsmanref26_SameAll.s4 Q (herdsmanref26_SameAll.b4 Q 0) _ _ _ _ _ _ _ _
        unfold herdsmanref26_SameAll.s4
        rw [decide_eq_false (by omega), cond_false]
        have := hh _ s
        rwa [decide_eq_true] at this
        apply List.ext_getElem?
        intro j
        by_cases hj : j < i
        · exact hlow j hj
        · rw [List.getElem?_eq_none (by rw [hA.len]; omega), List.getElem?_eq_none (by rw [hB.len]; omega)]
      | succ m ih =>
        intro i w hi hlow s
        show herdsmanref26_SameAll.s4 Q (herdsmanref26_SameAll.b4 Q (m + 1)) _ _ _ _ _ _ _ _
        unfold herdsmanref26_SameAll.s4
        rw [decide_eq_true (by omega), cond_true]
        have s := Sep.drew s
        refine (hA.fr (sep_fr s)).El rfl (by omega) fun p v o ho hv hc => ?_
        refine LdOp hc ?_
        refine (hB.fr (sep_fr s)).El rfl (by omega) fun p' v' o' ho' hv' hc' => ?_
        refine LdOp hc' ?_
        refine ref_Same.spec s hv hv' fun w s _ => ?_
        rw [wrap_i64 (n := (i : Int) + 1) (by omega) (by omega)]
        by_cases he : o = o'
        · rw [decide_eq_true he, Bool.not_true, cond_false]
          refine ih (i + 1) w (by omega) (fun j hj => ?_) s
          by_cases hji : j = i
          · subst hji; rw [ho, ho', he]
          · exact hlow j (by omega)
        · rw [decide_eq_false he, Bool.not_false, cond_true]
          have := hh _ s
          rwa [decide_eq_false (fun e => he (by rw [e, ho'] at ho; exact (Option.some.inj ho).symm))] at this
    exact ⟨n + 1, loop n 0 w0 (by omega) (fun j hj => by omega) s⟩
  · rw [show ((n : Int) != (n' : Int)) = true by rw [bne_iff_ne]; omega, cond_true]
    have := hh _ s
    rwa [decide_eq_false (fun e => hl (by rw [← hA.len, ← hB.len, e]))] at this
theorem num4 {x y z u : Int} : numI [x, y, z, u] = x + y * 256 + z * 65536 + u * 16777216 := by simp only [numI]; omega
theorem take4 {bs : List Int} (h : 4 ≤ bs.length) : bs.take 4 = [gi bs 0, gi bs 1, gi bs 2, gi bs 3] := by
  match bs, h with
  | x :: y :: z :: u :: r, _ => rfl
theorem ref_number.spec {w0 : World} {Q : Int → World → Prop} (hA : Sl w0 a n c 1 by8 bs) (hr : Rng bs) (hn : 4 ≤ n) (h : ∀ w', Fr No w0 w' → Q (numI (bs.take 4)) w') : herdsmanref26_number.call a n c w0 Q := by
  refine herdsmanref26_number.body _ _ _ _ _ ?_
  unfold herdsmanref26_number.sh
  have hl := hA.len
  have g : ∀ i, i < 4 → 0 ≤ gi bs i ∧ gi bs i < 256 := fun i hi => hr _ (gi_mem (by omega))
  have g0 := g 0 (by decide)
  have g1 := g 1 (by decide)
  have g2 := g 2 (by decide)
  have g3 := g 3 (by decide)
  have hB := hA.drew
  refine Sl.rd8 hB (k := 0) rfl (by omega) ?_
  refine Sl.rd8 hB (k := 1) rfl (by omega) ?_
  refine ⟨by decide, ?_⟩
  refine Sl.rd8 hB (k := 2) rfl (by omega) ?_
  refine ⟨by decide, ?_⟩
  refine Sl.rd8 hB (k := 3) rfl (by omega) ?_
  refine ⟨by decide, ?_⟩
  have e := h w0.drew (Fr.refl (w := w0))
  rw [take4 (by omega), num4] at e
  have sh : ∀ (x k : Int), ishl .i64 x k = IntKind.wrap .i64 (x * 2 ^ (min k.toNat 64)) := fun x k => rfl
  rw [sh, sh, sh, show (2 : Int) ^ (min (8 : Int).toNat 64) = 256 by decide, show (2 : Int) ^ (min (16 : Int).toNat 64) = 65536 by decide, show (2 : Int) ^ (min (24 : Int).toNat 64) = 16777216 by decide]
  rw [wrap_i64 (n := gi bs 0) (by omega) (by omega), wrap_i64 (n := gi bs 1) (by omega) (by omega), wrap_i64 (n := gi bs 2) (by omega) (by omega), wrap_i64 (n := gi bs 3) (by omega) (by omega),
    wrap_i64 (n := gi bs 1 * 256) (by omega) (by omega), wrap_i64 (n := gi bs 2 * 65536) (by omega) (by omega), wrap_i64 (n := gi bs 3 * 16777216) (by omega) (by omega),
    wrap_i64 (n := gi bs 0 + gi bs 1 * 256) (by omega) (by omega), wrap_i64 (n := gi bs 0 + gi bs 1 * 256 + gi bs 2 * 65536) (by omega) (by omega), wrap_i64 (by omega) (by omega)]
  exact e
def asksI (k : Int) : Nat := if k = 1 then 4 else shA k + shB k
theorem ref_asks.spec {w : World} {k : Int} {Q : Int → World → Prop} (hk : 1 ≤ k ∧ k ≤ 8) (h : Q (asksI k : Nat) w) : herdsmanref26_asks.call k w Q := by
  refine herdsmanref26_asks.body _ _ _ ?_
  unfold herdsmanref26_asks.sh
  have hk' : k = 1 ∨ k = 2 ∨ k = 3 ∨ k = 4 ∨ k = 5 ∨ k = 6 ∨ k = 7 ∨ k = 8 := by omega
  rcases hk' with rfl | rfl | rfl | rfl | rfl | rfl | rfl | rfl <;> exact h
def longI (bs : List Int) : Int := if shOk (gi bs 0) = true then (if (readP bs).2 = 0 then -1 else ((readP bs).2 : Nat)) else 0
theorem ref_long.spec {w0 : World} {Q : Int → World → Prop} (s0 : Sep F W w0 L) (hA : Sl w0 a n c 1 by8 bs) (hr : Rng bs) (hn : 0 < n) (hn2 : n ≤ 1000000000) (h : ∀ w', Sep F W w' L → Fr No w0 w' → Q (longI bs) w') : herdsmanref26_long.call a n c w0 Q := by
  refine herdsmanref26_long.body _ _ _ _ _ ?_
  unfold herdsmanref26_long.sh
  have hl := hA.len
  have hh : ∀ w', Fr No w0 w' → Q (longI bs) w' := fun w' f => h w' (Sep.call s0 f) f
  cases bs with
  | nil => simp at hl; omega
  | cons x r =>
    obtain ⟨hx, hrr⟩ := hr.cons
    rw [List.length_cons] at hl
    refine Sl.rd8 hA (k := 0) rfl (by omega) ?_
    have g0 : gi (x :: r) 0 = x := rfl
    unfold longI at hh
    rw [g0] at hh ⊢
    rw [wrap_i64 (n := x) (by omega) (by omega)]
    refine ref_In.spec ?_
    by_cases hk : 1 ≤ x ∧ x ≤ 8
    · rw [decide_eq_true hk, Bool.not_true, cond_false]
      rw [if_pos (show shOk x = true from decide_eq_true hk), readP_cons, if_pos (show shOk x = true from decide_eq_true hk)] at hh
      refine ref_asks.spec hk ?_
      have hab := shAB x
      have hal : asksI x ≤ 8 := by unfold asksI; split <;> omega
      rw [wrap_i64 (n := 1 + (asksI x : Int)) (by omega) (by omega)]
      by_cases hL : x = 1
      · subst hL
        rw [if_pos (show shL 1 = true by decide)] at hh
        have e4 : asksI 1 = 4 := rfl
        rw [e4]
        by_cases h4 : r.length < 4
        · rw [decide_eq_true (by omega), cond_true]
          have := hh w0 Fr.refl
          rwa [if_pos h4] at this
        · rw [decide_eq_false (by omega), cond_false, show ((1 : Int) == 1) = true from rfl, cond_true]
          rw [if_neg h4] at hh
          refine hA.lo (m := 1) rfl (by omega) fun ta tn tc htn hT => ?_
          have hT : Sl w0 ta tn tc 1 by8 r := hT
          refine ref_number.spec hT hrr (by omega) fun w1 f1 => ?_
          have rg := numI_range (hrr.take 4)
          rw [show (r.take 4).length = 4 by rw [List.length_take]; omega] at rg
          unfold herdsmanref26_long.b9
          rw [wrap_i64 (n := 1 + ((4 : Nat) : Int) + numI (r.take 4)) (by omega) (by omega)]
          have := hh w1 f1
          by_cases h5 : (r.length : Int) - 4 < numI (r.take 4)
          · rw [decide_eq_true (by omega), cond_true]
            rwa [if_pos h5] at this
          · rw [decide_eq_false (by omega), cond_false]
            rw [if_neg h5] at this
            simp only at this
            rw [if_neg (by omega)] at this
            rwa [show ((5 + (numI (r.take 4)).toNat : Nat) : Int) = 1 + ((4 : Nat) : Int) + numI (r.take 4) by omega] at this
      · rw [if_neg (show ¬ shL x = true by unfold shL; simpa using hL)] at hh
        have e4 : asksI x = shA x + shB x := by unfold asksI; rw [if_neg hL]
        rw [e4]
        have := hh w0 Fr.refl
        by_cases h4 : r.length < shA x + shB x
        · rw [decide_eq_true (by omega), cond_true]
          rwa [if_pos h4] at this
        · rw [decide_eq_false (by omega), cond_false, show (x == 1) = false by rw [beq_eq_false_iff_ne]; exact hL, cond_false]
          unfold herdsmanref26_long.b9
          rw [decide_eq_false (by omega), cond_false]
          rw [if_neg h4] at this
          simp only at this
          rw [if_neg (by omega)] at this
          rwa [show ((1 + shA x + shB x : Nat) : Int) = 1 + ((shA x + shB x : Nat) : Int) by omega] at this
    · rw [decide_eq_false hk, Bool.not_false, cond_true]
      have := hh w0 Fr.refl
      rwa [if_neg (show ¬ shOk x = true by unfold shOk; simpa using hk)] at this
end
end Go.Proofs.Ytjndgflalbcngaa.S
