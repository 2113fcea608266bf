/- Layer 18: New, Clear, Find, Len, Keys. -/
import Derived.Test.YtfkpabfamfeggaaUA
set_option linter.unusedVariables false
set_option linter.unusedSimpArgs false
namespace Go.Proofs.Ytfkpabfamfeggaa.S
open Go.Sx
open Go.Maps (Keyed)
open Go.WideMaps (ArrKey keyOf_pair)
theorem arrKey : ArrKey P 29 3 2 := ⟨by kernel_rfl, by kernel_rfl, by kernel_rfl, by kernel_rfl⟩
theorem kp : Keyed P 29 := Keyed.of_law arrKey.law
theorem mapT : P.underlying 48 = some (.map 29 3) := by kernel_rfl
theorem zero3 (w : World) : (zeroValue 3).run P w = .ok (.int .i64 0) w := rfl
theorem typesPos : ∃ m, P.types.size = m + 1 := ⟨P.types.size - 1, by have h : 0 < P.types.size := of_decide_eq_true (by kernel_rfl); omega⟩
def WfK (k : Int × Int) : Prop := (Lit.int .i64 k.1).wf = true ∧ (Lit.int .i64 k.2).wf = true
def keyV (k : Int × Int) : Value := .agg #[.int .i64 k.1, .int .i64 k.2]
theorem keyV_inj {a b : Int × Int} (h : keyV a = keyV b) : a = b := by
  obtain ⟨a1, a2⟩ := a
  obtain ⟨b1, b2⟩ := b
  simp [keyV] at h
  rw [h.1, h.2]
theorem keyV_of {k : Int × Int} (h : WfK k) : ∃ l, keyOf P 29 (keyV k) = some l := ⟨_, keyOf_pair arrKey (by kernel_rfl) typesPos h.1 h.2⟩
attribute [local irreducible] LdI LdB LdStr LdP LdS LdM LdV St Bx Al App Cpy MkS MkM EqK RunK RunU CallK SlK blkA rowA joinA mapA
def ent (p : (Int × Int) × Nat) : Value × Value := (keyV p.1, .int .i64 p.2)
structure LruR where
  sa : Option Addr
  sn : Nat
  sc : Nat
  mb : Nat
  ss : List Seat
  m : List (Value × Value)
  nw : Int
  od : Int
structure RInv (k : Int) (l : KS) (r : LruR) : Prop where
  hk : 1 ≤ k
  good : Good k l
  sn : r.sn = l.length
  nw : r.nw = hdO (l.map (·.2)) (-1)
  od : r.od = lsO (l.map (·.2)) (-1)
  seg : Seg r.ss (-1) (l.map (·.2)) (-1)
  key : ∀ p ∈ l, r.ss[p.2]?.map (fun s => (s.a, s.b)) = some p.1
  perm : r.m.Perm (l.map ent)
  wf : ∀ p ∈ l, WfK p.1
noncomputable def lruPs (p : Nat) (k : Int) (r : LruR) : List As := [blkA p 50 [.int .i64 k, .slice r.sa r.sn r.sc, .map (some r.mb), .int .i64 r.nw, .int .i64 r.od], rowA r.sa r.sn r.sc 54 4 (flat seatc r.ss), mapA P 29 r.mb r.m]
noncomputable def lruA (p : Nat) (k : Int) (l : KS) (r : LruR) : As := joinA (RInv k l r) (lruPs p k r)
section
variable {F : Nat → Prop} {W w : World} {L : List As} {p : Nat} {k : Int} {l : KS} {r : LruR}
theorem lru_open (s : Sep F W w (lruA p k l r :: L)) : RInv k l r ∧ Sep F W w (lruPs p k r ++ L) := Sep.openJ s
theorem lru_close (s : Sep F W w (lruPs p k r ++ L)) (h : RInv k l r) : Sep F W w (lruA p k l r :: L) := Sep.joinApp s h
theorem Clear.spec {Q : World → Prop} {v1 v2 v3 v4 : Value} (hk : 1 ≤ k) (s : Sep F W w (blkA p 50 [.int .i64 k, v1, v2, v3, v4] :: L)) (h : ∀ r w', Sep F W w' (lruA p k [] r :: L) → Q w') : lru_Lru_Clear.call (some ⟨p, 0, none⟩) w Q := by
  refine lru_Lru_Clear.body _ _ _ ?_
  unfold lru_Lru_Clear.sh
  refine Sep.MkM s P 29 48 fun mb w s => ?_
  refine wA_some ?_
  refine Sep.St s (i := 1) rfl rfl rfl fun w s => ?_
  refine wA_some ?_
  refine Sep.St s (i := 1) rfl rfl rfl fun w s => ?_
  refine wA_some ?_
  refine Sep.St s (i := 1) rfl rfl rfl fun w s => ?_
  refine wA_some ?_
  refine Sep.St s (i := 1) rfl rfl rfl fun w s => ?_
  simp only [List.set_cons_zero, List.set_cons_succ] at s
  have s := Sep.perm (Sep.row_nil s 54 4) (List.Perm.trans (List.Perm.cons _ (List.Perm.swap ..)) (List.Perm.trans (List.Perm.swap ..) (List.Perm.refl _)))
  exact h ⟨none, 0, 0, mb, [], [], -1, -1⟩ w (lru_close s ⟨hk, good_nil (by omega), rfl, rfl, rfl, trivial, (fun p hp => by cases hp), List.Perm.nil, (fun p hp => by cases hp)⟩)
theorem New.spec {Q : Option Addr → World → Prop} (s : Sep F W w L) (hno : k < 1 → Q none w) (h : 1 ≤ k → ∀ p r w', Sep F W w' (lruA p k [] r :: L) → Q (some ⟨p, 0, none⟩) w') : lru_New.call k w Q := by
  refine lru_New.body _ _ _ ?_
  unfold lru_New.sh
  by_cases hk : k < 1
  · rw [decide_eq_true hk, cond_true]
    exact hno hk
  · rw [decide_eq_false hk, cond_false]
    refine Sep.Bx s fun p w s => ?_
    exact Clear.spec (by omega) s fun r w s => h (by omega) p r w s
/-- Asked for a key. -/
theorem look {K : Value → World → Prop} {key : Int × Int} (s : Sep F W w (lruPs p k r ++ L)) (hI : RInv k l r) (hkey : WfK key) (h0 : l.find? (fun p => decide (p.1 = key)) = none → K (.tuple #[.int .i64 0, .bool false]) w)
    (h1 : ∀ q, l.find? (fun p => decide (p.1 = key)) = some q → K (.tuple #[.int .i64 q.2, .bool true]) w) : RunK P (Instr.lookup 48 (.map (some r.mb)) (.agg #[.int .i64 key.1, .int .i64 key.2]) true) w K := by
  refine Sep.Look (c := true) kp mapT (zero3 w) s (i := 2) rfl (keyV_of hkey) (fun h => ?_) (fun j v hj => ?_)
  · refine h0 (List.find?_eq_none.2 fun q hq => ?_)
    have := h (ent q) (hI.perm.mem_iff.2 (List.mem_map.2 ⟨q, hq, rfl⟩))
    simp only [decide_eq_true_eq]
    exact fun e => this (by rw [← e]; rfl)
  · have hm := hI.perm.mem_iff.1 (List.mem_of_getElem? hj)
    obtain ⟨q, hq, e⟩ := List.mem_map.1 hm
    have e1 : keyV q.1 = keyV key := congrArg Prod.fst e
    have e2 : Value.int .i64 (q.2 : Int) = v := congrArg Prod.snd e
    have e1 := keyV_inj e1
    subst e1 e2
    exact h1 q (find_of_mem hI.good.knd hq)
theorem Find.spec {key : Int × Int} {Q : Int → World → Prop} (s : Sep F W w (lruA p k l r :: L)) (hkey : WfK key) (h : Q (findP l key) w) : lru_Lru_Find.call (some ⟨p, 0, none⟩) key.1 key.2 w Q := by
  refine lru_Lru_Find.body _ _ _ _ _ ?_
  unfold lru_Lru_Find.sh
  obtain ⟨hI, s⟩ := lru_open s
  rw [show (some (⟨p, 0, none⟩ : Addr)).isNone = false from rfl, cond_false]
  refine wA_some ?_
  refine Sep.LdM s (i := 0) rfl rfl rfl ?_
  unfold findP at h
  refine look s hI hkey (fun e => ?_) fun q e => ?_
  · rw [e] at h; exact h
  · rw [e] at h; exact h
theorem Len.spec {Q : Int → World → Prop} (s : Sep F W w (lruA p k l r :: L)) (h : Q (l.length : Nat) w) : lru_Lru_Len.call (some ⟨p, 0, none⟩) w Q := by
  refine lru_Lru_Len.body _ _ _ ?_
  unfold lru_Lru_Len.sh
  obtain ⟨hI, s⟩ := lru_open s
  rw [show (some (⟨p, 0, none⟩ : Addr)).isNone = false from rfl, cond_false]
  refine wA_some ?_
  refine Sep.LdS s (i := 0) rfl rfl rfl ?_
  rw [hI.sn]
  exact h
def keyc (k : Int × Int) : List Value := [.int .i64 k.1, .int .i64 k.2]
theorem keyc_len (k : Int × Int) : (keyc k).length = 2 := rfl
theorem keyc_one (v : Int × Int) (u : Value) (h : u ∈ keyc v) : u.oneCell' = true := by
  simp only [keyc, List.mem_cons, List.not_mem_nil, or_false] at h
  rcases h with rfl | rfl <;> rfl
theorem addKey {a : Option Addr} {n c : Nat} {ks : List (Int × Int)} {x : Int × Int} {K : Option Addr → Nat → Nat → World → Prop} (s : Sep F W w (rowA a n c 29 2 (flat keyc ks) :: L)) (hn : n ≤ 1000000000)
    (h : ∀ a' c' w', Sep F W w' (rowA a' (n + 1) c' 29 2 (flat keyc (ks ++ [x])) :: L) → K a' (n + 1) c' w') : Bx [.int .i64 x.1, .int .i64 x.2] 29 w fun p w1 => App P #[26, 26] 26 (.slice a n c) (.slice (some p) 1 1) w1 K := by
  refine Sep.Bx s fun b w1 s1 => ?_
  have src : Src w1 (some ⟨b, 0, none⟩) 1 2 (keyc x) := ⟨rfl, keyc_one x, fun j u hj => by rw [add_flat, Nat.zero_add]; exact Sep.cell s1 (i := 0) rfl rfl hj⟩
  refine Sep.App tab_ok s1 (i := 1) (size := 2) (bytes := 16) rfl rfl rfl rfl rfl rfl (by decide) rfl src (by simp only [maxLen]; omega) (by omega) (fun e => by cases e) fun a1 c1 w2 s2 => ?_
  simp only [List.set_cons_zero, List.set_cons_succ] at s2
  have e : flat keyc ks ++ keyc x = flat keyc (ks ++ [x]) := by rw [flat_append]; simp [flat]
  rw [e] at s2
  exact h _ _ _ (Sep.drop s2)
theorem Keys.spec {Q : Option Addr → Nat → Nat → World → Prop} (s : Sep F W w (lruA p k l r :: L)) (hl : l.length ≤ 1000000) (h : ∀ a n c w', Sep F W w' (rowA a n c 29 2 (flat keyc (l.map (·.1))) :: lruA p k l r :: L) → Q a n c w') : lru_Lru_Keys.call (some ⟨p, 0, none⟩) w Q := by
  refine lru_Lru_Keys.body _ _ _ ?_
  unfold lru_Lru_Keys.sh
  obtain ⟨hI, s⟩ := lru_open s
  rw [show (some (⟨p, 0, none⟩ : Addr)).isNone = false from rfl, cond_false]
  refine wA_some ?_
  refine Sep.LdI s (i := 0) rfl rfl rfl ?_
  have loop : ∀ (post pre : KS) (a : Option Addr) (n c : Nat) (w : World), l = pre ++ post → n = pre.length → Sep F W w (rowA a n c 29 2 (flat keyc (pre.map (·.1))) :: (lruPs p k r ++ L)) → lru_Lru_Keys.b5 Q (post.length + 1) (some ⟨p, 0, none⟩) a n c (hdO (post.map (·.2)) (-1)) w := by
    intro post
    induction post with
    | nil =>
      intro pre a n c w e hn s
      show lru_Lru_Keys.s5 Q (lru_Lru_Keys.b5 Q 0) _ _ _ _ _ _
      unfold lru_Lru_Keys.s5
      show Q _ _ _ _
      rw [List.append_nil] at e
      subst e
      refine h _ _ _ _ (Sep.perm (lru_close (L := rowA a n c 29 2 (flat keyc (l.map (·.1))) :: L) ?_ hI) (List.Perm.swap ..))
      exact Sep.perm s (List.perm_middle (l₁ := lruPs p k r)).symm
    | cons q post ih =>
      intro pre a n c w e hn s
      show lru_Lru_Keys.s5 Q (lru_Lru_Keys.b5 Q (post.length + 1)) _ _ _ _ _ _
      unfold lru_Lru_Keys.s5
      have hq : q ∈ l := by rw [e]; simp
      have hlt := hI.good.lt q hq
      have hsl := rowA_length s (i := 2) rfl
      rw [flat_length seatc_len] at hsl
      have hsn := hI.sn
      show cond ((q.2 : Int) != -1) _ _
      rw [show ((q.2 : Int) != -1) = true by rw [bne_iff_ne]; omega, cond_true]
      obtain ⟨x, hx, hx1, hx2⟩ := seat_at (ss := r.ss) (i := q.2) (by omega)
      have hkey := hI.key q hq
      rw [hx] at hkey
      have hxa : x.a = q.1.1 := congrArg Prod.fst (Option.some.inj hkey)
      have hxb : x.b = q.1.2 := congrArg Prod.snd (Option.some.inj hkey)
      have hseg := hI.seg
      rw [e, List.map_append, List.map_cons, Seg_app] at hseg
      rw [hseg.2.2.1] at hx2
      refine wA_some ?_
      refine Sep.LdS s (i := 1) rfl rfl rfl ?_
      refine (Sep.sl s (i := 2) rfl seatc_len (by decide)).El (k := q.2) rfl (by omega) fun pp x' hx' hc => ?_
      rw [hx] at hx'
      cases hx'
      refine LdI_cell (hc 0 _ rfl) ?_
      refine LdI_cell (hc 1 _ rfl) ?_
      rw [hxa, hxb]
      have hlen := congrArg List.length e
      rw [List.length_append, List.length_cons] at hlen
      refine addKey s (by omega) fun a c w s => ?_
      refine wA_some ?_
      refine Sep.LdS s (i := 1) rfl rfl rfl ?_
      refine (Sep.sl s (i := 2) rfl seatc_len (by decide)).El (k := q.2) rfl (by omega) fun pp x' hx' hc => ?_
      rw [hx] at hx'
      cases hx'
      refine LdI_cell (hc 3 _ rfl) ?_
      rw [hx2]
      refine ih (pre ++ [q]) a (n + 1) c w (by rw [e]; simp) (by simp [hn]) ?_
      rw [List.map_append]
      exact s
  have s := Sep.row_nil s 29 2
  rw [hI.nw]
  exact ⟨l.length + 1, loop l [] none 0 0 w rfl rfl s⟩
end
end Go.Proofs.Ytfkpabfamfeggaa.S
