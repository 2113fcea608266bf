/- Layer 6: TallyBytes answers true. -/
import Derived.Test.YthelhikocaeecaaYH
set_option linter.unusedVariables false
set_option linter.unusedSimpArgs false
namespace Go.Proofs.Ythelhikocaeecaa.S
open Go.Sx
attribute [local irreducible] LdI LdB LdStr LdP LdS LdM LdV St Bx Al App Cpy MkS MkM EqK RunK RunU CallK SlK blkA rowA
theorem dStr_mk {b : ByteArray} {K : ByteArray → Prop} (h : K b) : dStr (.string b) K := h
theorem strOf_toList (xs : List Int) : (strOfNums xs).toList = xs.map fun n => UInt8.ofNat n.toNat := by
  rw [ByteArray.toList_eq]; rfl
theorem strOf_inj {xs ys : List Int} (hx : ∀ x ∈ xs, 0 ≤ x ∧ x < 256) (hy : ∀ x ∈ ys, 0 ≤ x ∧ x < 256) (h : (xs.map fun n => UInt8.ofNat n.toNat) = ys.map fun n => UInt8.ofNat n.toNat) : xs = ys := by
  induction xs generalizing ys with
  | nil => cases ys with
    | nil => rfl
    | cons => simp at h
  | cons x xs ih => cases ys with
    | nil => simp at h
    | cons y ys =>
      simp only [List.map_cons, List.cons.injEq] at h
      have h1 := hx x (by simp)
      have h2 := hy y (by simp)
      have e := congrArg UInt8.toNat h.1
      simp only [UInt8.toNat_ofNat'] at e
      rw [ih (fun z hz => hx z (by simp [hz])) (fun z hz => hy z (by simp [hz])) h.2, show x = y by omega]
theorem le8_range {n x : Int} (h : x ∈ le8 n) : 0 ≤ x ∧ x < 256 := by
  obtain ⟨j, _, rfl⟩ := List.mem_map.1 h
  exact byt_range n j
theorem bytes6_range {a b c d e f x : Int} (h : x ∈ bytes6 a b c d e f) : 0 ≤ x ∧ x < 256 := by
  obtain ⟨n, _, hn⟩ := List.mem_flatMap.1 h
  exact le8_range hn
theorem le8_length (n : Int) : (le8 n).length = 8 := by simp [le8]
theorem bytes6_inj {a b c d e f a' b' c' d' e' f' : Int} (u : (U a ∧ U b ∧ U c ∧ U d ∧ U e ∧ U f) ∧ U a' ∧ U b' ∧ U c' ∧ U d' ∧ U e' ∧ U f') (h : bytes6 a b c d e f = bytes6 a' b' c' d' e' f') :
    a = a' ∧ b = b' ∧ c = c' ∧ d = d' ∧ e = e' ∧ f = f' := by
  obtain ⟨⟨ua, ub, uc, ud, ue, uf⟩, va, vb, vc, vd, ve, vf⟩ := u
  simp only [bytes6, List.flatMap_cons, List.flatMap_nil, List.append_nil] at h
  obtain ⟨h0, h⟩ := List.append_inj h (by simp [le8_length])
  obtain ⟨h1, h⟩ := List.append_inj h (by simp [le8_length])
  obtain ⟨h2, h⟩ := List.append_inj h (by simp [le8_length])
  obtain ⟨h3, h⟩ := List.append_inj h (by simp [le8_length])
  obtain ⟨h4, h5⟩ := List.append_inj h (by simp [le8_length])
  exact ⟨byts_inj ua va h0, byts_inj ub vb h1, byts_inj uc vc h2, byts_inj ud vd h3, byts_inj ue ve h4, byts_inj uf vf h5⟩
theorem bytes6_eq {a b c d e f a' b' c' d' e' f' : Int} (u : (U a ∧ U b ∧ U c ∧ U d ∧ U e ∧ U f) ∧ U a' ∧ U b' ∧ U c' ∧ U d' ∧ U e' ∧ U f') :
    ((strOfNums (bytes6 a b c d e f)).toList == (strOfNums (bytes6 a' b' c' d' e' f')).toList) = eq6 a b c d e f a' b' c' d' e' f' := by
  rw [Bool.eq_iff_iff, beq_iff_eq, strOf_toList, strOf_toList]
  unfold eq6
  simp only [Bool.and_eq_true, beq_iff_eq, and_true]
  constructor
  · intro h
    exact bytes6_inj u (strOf_inj (fun x hx => bytes6_range hx) (fun x hx => bytes6_range hx) h)
  · rintro ⟨rfl, rfl, rfl, rfl, rfl, rfl⟩
    rfl
theorem ishr_byt {n : Int} (j : Nat) (hj : j < 8) : IntKind.wrap .u8 (ishr .u64 n ((8 * j : Nat) : Int)) = byt n j := by
  unfold ishr byt
  have e : min ((8 * j : Nat) : Int).toNat (IntKind.u64).bits = 8 * j := by simp [IntKind.bits]; omega
  rw [e, Int.fdiv_eq_ediv_of_nonneg _ (Int.pow_nonneg (by decide)), wrap_u8', Int.pow_mul]
  rfl
section
variable {F : Nat → Prop} {W w : World} {L : List As} {Q : Bool → World → Prop}
theorem TallyBytes_loop {a b c d e f a' b' c' d' e' f' : Int} (u : (U a ∧ U b ∧ U c ∧ U d ∧ U e ∧ U f) ∧ U a' ∧ U b' ∧ U c' ∧ U d' ∧ U e' ∧ U f')
    {pl pa pb : Nat} {tl : TypeId} {xa ya : Option Addr} {xc yc : Nat} (h : ∀ w', Sep F W w' L → Q true w') :
    ∀ (m t : Nat) (w : World), t + m = 48 → Sep F W w (blkA pl tl ([a, b, c, d, e, f].map (.int .u64)) :: rowA ya 48 yc 5 1 (nums (bytes6 a' b' c' d' e' f')) :: rowA xa 48 xc 5 1 (nums (bytes6 a b c d e f)) ::
      blkA pb 28 [.int .u64 a', .int .u64 b', .int .u64 c', .int .u64 d', .int .u64 e', .int .u64 f'] :: blkA pa 28 [.int .u64 a, .int .u64 b, .int .u64 c, .int .u64 d, .int .u64 e, .int .u64 f] :: L) →
    herdsmanlaw6_TallyBytes.b6 Q (m + 1) ⟨pa, 0, none⟩ ⟨pb, 0, none⟩ xa 48 xc ya 48 yc ⟨pl, 0, none⟩ t w := by
  intro m
  induction m with
  | zero =>
    intro t w ht s
    obtain rfl : t = 48 := by omega
    show herdsmanlaw6_TallyBytes.s6 Q (herdsmanlaw6_TallyBytes.b6 Q 0) _ _ _ _ _ _ _ _ _ _ _
    unfold herdsmanlaw6_TallyBytes.s6
    rw [decide_eq_false (by decide), cond_false]
    refine herdsmanlaw6_told.spec ?_
    rw [cond_true]
    have hz := bytes6_eq u
    have s : Sep F W w.drew _ := s
    repeat' first
      | refine Sep.LdI s (i := 4) rfl rfl rfl ?_
      | refine Sep.LdI s (i := 3) rfl rfl rfl ?_
      | refine ⟨Sep.cell s (i := 4) rfl rfl rfl, ?_⟩
      | refine ⟨Sep.cell s (i := 3) rfl rfl rfl, ?_⟩
      | refine Sep.Str tab_ok s rfl rfl rfl rfl rfl rfl (i := 2) rfl (dStr_mk ?_)
      | refine Sep.Str tab_ok s rfl rfl rfl rfl rfl rfl (i := 1) rfl (dStr_mk ?_)
      | refine eql28 ?_
      | (rw [hz, beq_self_eq_true]; exact h _ (Sep.drop (Sep.drop (Sep.drop (Sep.drop (Sep.drop s))))))
      | refine ⟨?_, ?_⟩
  | succ m ih =>
    intro t w ht s
    show herdsmanlaw6_TallyBytes.s6 Q (herdsmanlaw6_TallyBytes.b6 Q (m + 1)) _ _ _ _ _ _ _ _ _ _ _
    unfold herdsmanlaw6_TallyBytes.s6
    rw [decide_eq_true (by omega), cond_true]
    refine ⟨by omega, by omega, ?_⟩
    obtain ⟨g, rfl⟩ := rowA_some s (i := 2) rfl (by omega)
    have e1 : ((t : Int).toNat * 1) = t := by omega
    have s' : Sep F W w.drew _ := s
    have hb : (bytes6 a b c d e f)[t]? = some (byt ([a, b, c, d, e, f].getD (t / 8) 0) (t % 8)) := flat8 _ _ (by simp; omega)
    show LdI .u8 ((⟨g, 0, none⟩ : Addr).add ((t : Int).toNat * 1)) w.drew _
    rw [e1]
    refine Sep.LdI_row s' (i := 2) rfl (by rw [add_flat, Nat.zero_add]) (m := byt ([a, b, c, d, e, f].getD (t / 8) 0) (t % 8)) (by rw [nums, List.getElem?_map, hb]; rfl) ?_
    have e2 : Int.tdiv (t : Int) 8 = ((t / 8 : Nat) : Int) := by rw [Int.tdiv_eq_ediv_of_nonneg (by omega)]; omega
    have e3 : Int.tmod (t : Int) 8 = ((t % 8 : Nat) : Int) := by rw [Int.tmod_eq_emod_of_nonneg (by omega)]; omega
    rw [e2, e3, wrap_i64 (n := ((t / 8 : Nat) : Int)) (by omega) (by omega)]
    have e4 : (8 : Int) * ((t % 8 : Nat) : Int) = ((8 * (t % 8) : Nat) : Int) := by omega
    rw [e4, wrap_i64 (n := ((8 * (t % 8) : Nat) : Int)) (by omega) (by omega)]
    refine ⟨by decide, by omega, by omega, ?_⟩
    have e5 : ((((t / 8 : Nat) : Int)).toNat * 1) = t / 8 := by omega
    rw [e5]
    have hlt : t / 8 < [a, b, c, d, e, f].length := by simp; omega
    refine Sep.LdI s' (i := 0) (j := t / 8) (n := [a, b, c, d, e, f].getD (t / 8) 0) (by rw [add_flat, Nat.zero_add]) rfl (by rw [List.getElem?_map, List.getElem?_eq_getElem hlt, List.getD_eq_getElem?_getD, List.getElem?_eq_getElem hlt]; rfl) ?_
    refine ⟨by decide, by omega, ?_⟩
    rw [ishr_byt _ (by omega), bne_self_eq_false, cond_false, wrap_i64 (by omega) (by omega)]
    exact ih (t + 1) w.drew (by omega) s'
set_option maxHeartbeats 1000000 in
theorem herdsmanlaw6_TallyBytes.spec {a b c d e f a' b' c' d' e' f' : Int} (s : Sep F W w L) (u : (U a ∧ U b ∧ U c ∧ U d ∧ U e ∧ U f) ∧ U a' ∧ U b' ∧ U c' ∧ U d' ∧ U e' ∧ U f')
    (h : ∀ w', Sep F W w' L → Q true w') : herdsmanlaw6_TallyBytes.call a b c d e f a' b' c' d' e' f' w Q := by
  refine herdsmanlaw6_TallyBytes.body _ _ _ _ _ _ _ _ _ _ _ _ _ _ ?_
  unfold herdsmanlaw6_TallyBytes.sh
  refine Sep.Bx s fun b1 w1 s => ?_
  refine Sep.Bx s fun b2 w2 s => ?_
  repeat' first
    | refine Sep.LdI s (i := 0) rfl rfl rfl ?_
    | refine Sep.LdI s (i := 1) rfl rfl rfl ?_
  refine tally_Bytes.spec s u.1 fun xa xc w3 s => ?_
  repeat' first
    | refine And.intro (Sep.cell s (i := 1) rfl rfl rfl) ?_
    | refine And.intro (Sep.cell s (i := 2) rfl rfl rfl) ?_
  refine tally_Bytes.spec s u.2 fun ya yc w4 s => ?_
  rw [show (((48 : Nat) : Int) != 48) = false by decide, cond_false]
  repeat' first
    | refine Sep.LdI s (i := 3) rfl rfl rfl ?_
    | refine Sep.LdI s (i := 2) rfl rfl rfl ?_
  refine Sep.Al s fun b3 w5 s => ?_
  rw [zc33] at s
  repeat' first
    | (refine Sep.St s (i := 0) rfl rfl rfl fun w' s => ?_; simp only [Nat.zero_add, List.set_cons_zero, List.set_cons_succ] at s)
  refine ⟨49, ?_⟩
  exact TallyBytes_loop u h 48 0 _ rfl s
end
theorem TallyBytes_law : LawOk P 6 [stats, stats] := by
  intro W args h
  obtain ⟨v0, r, rfl, h0, h⟩ := RdAll.cons h
  obtain ⟨v1, r, rfl, h1, h⟩ := RdAll.cons h
  obtain rfl := RdAll.nil h
  obtain ⟨a, b, c, d, e, f, rfl, u⟩ := rdV_stats h0
  obtain ⟨a', b', c', d', e', f', rfl, u'⟩ := rdV_stats h1
  exact herdsmanlaw6_TallyBytes.spec (Q := fun r W' => r = true ∧ Go.RowKit.Below W.heap.size W W') (F := No) (L := []) Sep.nil ⟨u, u'⟩ fun w' s => ⟨rfl, sep_below s⟩
end Go.Proofs.Ythelhikocaeecaa.S
