/- Maps and their bytes, plain: sectors, tiles, runs; scripts made of numbers. -/
import Derived.Test.YtjndgflalbcngaaOP
set_option linter.unusedVariables false
set_option linter.unusedSimpArgs false
namespace Go.Proofs.Ytjndgflalbcngaa.S
open Go.Sx
def wiI (n lo hi : Int) : Int := lo + n % (hi - lo + 1)
theorem wiI_range {n lo hi : Int} (h : lo ≤ hi) : lo ≤ wiI n lo hi ∧ wiI n lo hi ≤ hi := by
  unfold wiI
  have h1 := Int.emod_nonneg n (b := hi - lo + 1) (by omega)
  have h2 := Int.emod_lt_of_pos n (b := hi - lo + 1) (by omega)
  omega
structure MapP where
  w : Int
  h : Int
  cs : List Int
def costI (x : Int) : Int := if x % 8 = 7 then 255 else if x < 160 then 1 + x % 4 else x
theorem costI_range {x : Int} (h : 0 ≤ x ∧ x < 256) : 1 ≤ costI x ∧ costI x < 256 := by
  unfold costI
  split
  · omega
  · split <;> omega
def madeAt (c : List Int) (i : Nat) : Int := if c = [] then costI 1 else costI (gi c ((i + i / c.length * 5) % c.length))
theorem madeAt_range {c : List Int} (h : Rng c) (i : Nat) : 1 ≤ madeAt c i ∧ madeAt c i < 256 := by
  unfold madeAt
  split
  · exact costI_range (by decide)
  · rename_i hc
    have := List.length_pos_iff.2 hc
    exact costI_range (h _ (gi_mem (Nat.mod_lt _ this)))
def madeC (n : Nat) (c : List Int) : List Int := (List.range n).map (madeAt c)
def madeP (w h : Int) (c : List Int) : MapP := ⟨wiI w 1 40, wiI h 1 40, madeC (wiI w 1 40 * wiI h 1 40).toNat c⟩
/-- A map that may be. -/
structure MayM (m : MapP) : Prop where
  w : 1 ≤ m.w ∧ m.w ≤ 1024
  h : 1 ≤ m.h ∧ m.h ≤ 1024
  len : (m.cs.length : Int) = m.w * m.h
  rng : ∀ x ∈ m.cs, 1 ≤ x ∧ x < 256
theorem MayM.bytes {m : MapP} (h : MayM m) : Rng m.cs := fun x hx => by have := h.rng x hx; omega
theorem made_may {w h : Int} {c : List Int} (hc : Rng c) : MayM (madeP w h c) := by
  have h1 := wiI_range (n := w) (lo := 1) (hi := 40) (by decide)
  have h2 := wiI_range (n := h) (lo := 1) (hi := 40) (by decide)
  have h3 : 0 ≤ wiI w 1 40 * wiI h 1 40 := Int.mul_nonneg (by omega) (by omega)
  refine ⟨⟨h1.1, by show wiI w 1 40 ≤ 1024; omega⟩, ⟨h2.1, by show wiI h 1 40 ≤ 1024; omega⟩, ?_, fun x hx => ?_⟩
  · show ((madeC _ c).length : Int) = _
    unfold madeC
    rw [List.length_map, List.length_range]
    show ((wiI w 1 40 * wiI h 1 40).toNat : Int) = wiI w 1 40 * wiI h 1 40
    omega
  · obtain ⟨i, _, rfl⟩ := List.mem_map.1 hx
    exact madeAt_range hc i
/-! Sectors. -/
def acr (w : Int) : Int := (w + 15) / 16
def cntS (w h : Int) : Int := acr w * acr h
def szW (w h s : Int) : Int := min 16 (w - 16 * (s % acr w))
def szH (w h s : Int) : Int := min 16 (h - 16 * (s / acr w))
def glob (w h s l : Int) : Int := (16 * (s / acr w) + l / szW w h s) * w + 16 * (s % acr w) + l % szW w h s
theorem acr_pos {w : Int} (h : 1 ≤ w ∧ w ≤ 1024) : 1 ≤ acr w ∧ acr w ≤ 64 := by unfold acr; omega
theorem cntS_range {w h : Int} (hw : 1 ≤ w ∧ w ≤ 1024) (hh : 1 ≤ h ∧ h ≤ 1024) : 1 ≤ cntS w h ∧ cntS w h ≤ 4096 := by
  have h1 := acr_pos hw
  have h2 := acr_pos hh
  unfold cntS
  have a : 1 * 1 ≤ acr w * acr h := Int.mul_le_mul h1.1 h2.1 (by decide) (by omega)
  have b : acr w * acr h ≤ 64 * 64 := Int.mul_le_mul h1.2 h2.2 (by omega) (by decide)
  omega
theorem sec_xy {w h s : Int} (hw : 1 ≤ w ∧ w ≤ 1024) (hh : 1 ≤ h ∧ h ≤ 1024) (hs : 0 ≤ s ∧ s < cntS w h) :
    0 ≤ s % acr w ∧ 0 ≤ s / acr w ∧ 16 * (s % acr w) ≤ w - 1 ∧ 16 * (s / acr w) ≤ h - 1 := by
  have h1 := acr_pos hw
  have h2 := acr_pos hh
  have a := Int.emod_nonneg s (b := acr w) (by omega)
  have b := Int.emod_lt_of_pos s (b := acr w) (by omega)
  have c : s / acr w < acr h := Int.ediv_lt_of_lt_mul (by omega) (by rw [Int.mul_comm]; exact hs.2)
  have d : 0 ≤ s / acr w := Int.ediv_nonneg hs.1 (by omega)
  refine ⟨a, d, ?_, ?_⟩
  · have : s % acr w ≤ acr w - 1 := by omega
    have e : acr w = (w + 15) / 16 := rfl
    omega
  · have e : acr h = (h + 15) / 16 := rfl
    omega
theorem sz_range {w h s : Int} (hw : 1 ≤ w ∧ w ≤ 1024) (hh : 1 ≤ h ∧ h ≤ 1024) (hs : 0 ≤ s ∧ s < cntS w h) : (1 ≤ szW w h s ∧ szW w h s ≤ 16) ∧ 1 ≤ szH w h s ∧ szH w h s ≤ 16 := by
  have := sec_xy hw hh hs
  unfold szW szH
  omega
theorem glob_range {w h s l : Int} (hw : 1 ≤ w ∧ w ≤ 1024) (hh : 1 ≤ h ∧ h ≤ 1024) (hs : 0 ≤ s ∧ s < cntS w h) (hl : 0 ≤ l ∧ l < szW w h s * szH w h s) :
    0 ≤ glob w h s l ∧ glob w h s l < w * h := by
  have h1 := sec_xy hw hh hs
  have h2 := sz_range hw hh hs
  have a := Int.emod_nonneg l (b := szW w h s) (by omega)
  have b := Int.emod_lt_of_pos l (b := szW w h s) (by omega)
  have c : l / szW w h s < szH w h s := Int.ediv_lt_of_lt_mul (by omega) (by rw [Int.mul_comm]; exact hl.2)
  have d : 0 ≤ l / szW w h s := Int.ediv_nonneg hl.1 (by omega)
  have e1 : 16 * (s % acr w) + l % szW w h s < w := by
    have : szW w h s ≤ w - 16 * (s % acr w) := by unfold szW; omega
    omega
  have e2 : 16 * (s / acr w) + l / szW w h s < h := by
    have : szH w h s ≤ h - 16 * (s / acr w) := by unfold szH; omega
    omega
  unfold glob
  have hy : 0 ≤ 16 * (s / acr w) + l / szW w h s := by omega
  generalize 16 * (s / acr w) + l / szW w h s = y at *
  have f1 : 0 ≤ y * w := Int.mul_nonneg hy (by omega)
  have f2 : (y + 1) * w ≤ h * w := Int.mul_le_mul_of_nonneg_right (by omega) (by omega)
  rw [Int.add_mul, Int.one_mul, Int.mul_comm h w] at f2
  omega
def tileP (m : MapP) (s : Int) : List Int := (List.range (szW m.w m.h s * szH m.w m.h s).toNat).map fun l : Nat => gi m.cs (glob m.w m.h s l).toNat
theorem tileP_rng {m : MapP} (h : MayM m) {s : Int} (hs : 0 ≤ s ∧ s < cntS m.w m.h) : ∀ x ∈ tileP m s, 1 ≤ x ∧ x < 256 := fun x hx => by
  obtain ⟨l, hl, rfl⟩ := List.mem_map.1 hx
  rw [List.mem_range] at hl
  have := glob_range h.w h.h hs (l := l) (by omega)
  have hlen := h.len
  exact h.rng _ (gi_mem (by omega))
theorem tileP_len {m : MapP} {s : Int} (h : MayM m) (hs : 0 ≤ s ∧ s < cntS m.w m.h) : ((tileP m s).length : Int) = szW m.w m.h s * szH m.w m.h s ∧ 1 ≤ (tileP m s).length ∧ (tileP m s).length ≤ 256 := by
  have h2 := sz_range h.w h.h hs
  have a : 1 * 1 ≤ szW m.w m.h s * szH m.w m.h s := Int.mul_le_mul h2.1.1 h2.2.1 (by decide) (by omega)
  have b : szW m.w m.h s * szH m.w m.h s ≤ 16 * 16 := Int.mul_le_mul h2.1.2 h2.2.2 (by omega) (by decide)
  unfold tileP
  rw [List.length_map, List.length_range]
  omega
/-! Runs. -/
def lead (x : Int) : List Int → Nat
  | [] => 0
  | y :: ys => if y = x then lead x ys + 1 else 0
theorem lead_le (x : Int) (l : List Int) : lead x l ≤ l.length := by
  induction l with
  | nil => exact Nat.le_refl _
  | cons y ys ih => unfold lead; split <;> simp <;> omega
def runsF : Nat → List Int → List Int
  | 0, _ => []
  | _ + 1, [] => []
  | f + 1, x :: cs => ((lead x cs : Nat) : Int) % 256 :: x :: runsF f (cs.drop (lead x cs))
theorem runsF_eq : ∀ (f g : Nat) (l : List Int), l.length ≤ f → l.length ≤ g → runsF f l = runsF g l := by
  intro f
  induction f with
  | zero =>
    intro g l hf hg
    have : l = [] := List.eq_nil_of_length_eq_zero (by omega)
    subst this
    cases g <;> rfl
  | succ f ih =>
    intro g l hf hg
    cases l with
    | nil => cases g <;> rfl
    | cons x cs =>
      cases g with
      | zero => simp at hg
      | succ g =>
        unfold runsF
        simp only [List.length_cons] at hf hg
        rw [ih g _ (by rw [List.length_drop]; omega) (by rw [List.length_drop]; omega)]
def runsP (l : List Int) : List Int := 2 :: runsF l.length l
theorem runsF_rng : ∀ (f : Nat) {l : List Int}, Rng l → Rng (runsF f l)
  | 0, _, _ => Rng.nil
  | _ + 1, [], _ => Rng.nil
  | f + 1, x :: cs, h => Rng.mk (by omega) (Rng.mk h.cons.1 (runsF_rng f (h.cons.2.drop _)))
theorem runsF_len : ∀ (f : Nat) (l : List Int), (runsF f l).length ≤ 2 * l.length
  | 0, _ => by simp [runsF]
  | _ + 1, [] => by simp [runsF]
  | f + 1, x :: cs => by
    have := runsF_len f (cs.drop (lead x cs))
    rw [List.length_drop] at this
    simp only [runsF, List.length_cons]
    omega
def putT (cs : List Int) : Int × List Int :=
  if (runsP cs).length = 3 then (0, [0, gi cs 0]) else if (runsP cs).length < 1 + cs.length then (2, runsP cs) else (1, 1 :: cs)
theorem putT_rng {cs : List Int} (h : Rng cs) (hl : 1 ≤ cs.length) : Rng (putT cs).2 := by
  unfold putT
  split
  · exact Rng.mk (by decide) (Rng.mk (h _ (gi_mem (by omega))) Rng.nil)
  · split
    · exact Rng.mk (by decide) (runsF_rng _ h)
    · exact Rng.mk (by decide) h
theorem putT_len {cs : List Int} : (putT cs).2.length ≤ 2 + cs.length := by
  unfold putT
  split
  · simp
  · split
    · simp only; omega
    · simp only [List.length_cons]; omega
def partsP (m : MapP) (k : Nat) : List Int := (List.range k).flatMap fun s : Nat => (putT (tileP m s)).2
def putMapP (m : MapP) : List Int := [m.w % 256, m.w / 256 % 256, m.h % 256, m.h / 256 % 256] ++ partsP m (cntS m.w m.h).toNat
theorem partsP_succ (m : MapP) (k : Nat) : partsP m (k + 1) = partsP m k ++ (putT (tileP m k)).2 := by
  unfold partsP
  rw [List.range_succ, List.flatMap_append]
  simp
theorem partsP_ok {m : MapP} (h : MayM m) : ∀ (k : Nat), (k : Int) ≤ cntS m.w m.h → Rng (partsP m k) ∧ (partsP m k).length ≤ 258 * k
  | 0, _ => ⟨Rng.nil, by simp [partsP]⟩
  | k + 1, hk => by
    obtain ⟨h1, h2⟩ := partsP_ok h k (by omega)
    have hs : 0 ≤ (k : Int) ∧ (k : Int) < cntS m.w m.h := by omega
    have hl := tileP_len h hs
    have hr := tileP_rng h hs
    rw [partsP_succ]
    refine ⟨Rng.app h1 (putT_rng (fun x hx => by have := hr x hx; omega) hl.2.1), ?_⟩
    rw [List.length_append]
    have := putT_len (cs := tileP m k)
    omega
theorem putMapP_ok {m : MapP} (h : MayM m) : Rng (putMapP m) ∧ (putMapP m).length ≤ 1100000 := by
  have hc := cntS_range h.w h.h
  obtain ⟨h1, h2⟩ := partsP_ok h (cntS m.w m.h).toNat (by omega)
  unfold putMapP
  refine ⟨Rng.app (Rng.mk (by omega) (Rng.mk (by omega) (Rng.mk (by omega) (Rng.mk (by omega) Rng.nil)))) h1, ?_⟩
  rw [List.length_append]
  simp only [List.length_cons, List.length_nil]
  omega
/-! Scripts. -/
structure AskQ where
  k : Int
  a : Int
  b : Int
def oddP (x : AskQ) (n : Int) : OpP :=
  let k := wiI x.b 1 6
  if k = 1 then ⟨1, 0, 0, [2, 0, 1, 0, 1, x.a % 256, x.b % 256]⟩
  else if k = 2 then ⟨2, wiI x.a 0 (n - 1), wiI x.a 0 1 * 255, []⟩
  else if k = 5 then ⟨5, n + wiI x.a 0 5, 0, []⟩
  else ⟨k, n + wiI x.a 0 5, wiI x.a 0 9, []⟩
def loadP (m : MapP) : OpP := ⟨1, 0, 0, putMapP m⟩
/-- The op of an ask, and the map that is told behind it. -/
def askP (w h : Int) (c : List Int) (m : MapP) (x : AskQ) : OpP × MapP :=
  let n : Int := m.cs.length
  let A := wiI x.a 0 (n - 1)
  let B := wiI x.b 0 (n - 1)
  let k := wiI x.k 0 15
  if k = 0 ∨ k = 1 ∨ k = 2 then (⟨3, A, B, []⟩, m)
  else if k = 3 then (⟨4, wiI x.a 0 9, B, []⟩, m)
  else if k = 4 then (⟨5, wiI x.a 0 9, 0, []⟩, m)
  else if k = 5 ∨ k = 6 then (⟨2, A, costI (x.b % 256), []⟩, m)
  else if k = 7 ∨ k = 8 then (⟨6, A, B, []⟩, m)
  else if k = 9 then (⟨8, 0, 0, []⟩, m)
  else if k = 10 then
    if Int.tmod x.a 4 = 0 then
      let m' := madeP (IntKind.wrap .i64 (w + IntKind.wrap .i64 (Int.tdiv x.a 4))) (IntKind.wrap .i64 (h + x.b)) c
      (loadP m', m')
    else (⟨0, 9 + wiI x.b 0 200, 0, []⟩, m)
  else if k = 11 then (oddP x n, m)
  else (⟨7, 0, 0, []⟩, m)
def asksP (w h : Int) (c : List Int) : MapP → List AskQ → List OpP
  | _, [] => []
  | m, x :: xs => (askP w h c m x).1 :: asksP w h c (askP w h c m x).2 xs
def scriptP (w h : Int) (c : List Int) (xs : List AskQ) : List OpP := loadP (madeP w h c) :: asksP w h c (madeP w h c) (xs.take 60)
/-- What holds of the ops of a script. -/
structure OkOp (o : OpP) : Prop where
  may : mayP o = true
  whole : ¬ isCut o
  rng : Rng o.m
  len : o.m.length ≤ 1100000
theorem fits4 {n : Int} (h : 0 ≤ n ∧ n ≤ 4000000) : fitsP n 4 = true := fits_iff.2 (by omega)
theorem ok_plain {k A B : Int} (hk : k = 2 ∨ k = 3 ∨ k = 4 ∨ k = 5 ∨ k = 6) (hA : 0 ≤ A ∧ A ≤ 4000000) (hB : 0 ≤ B ∧ B ≤ 4000000) (h2 : k = 2 → B ≤ 255) (h5 : k = 5 → B = 0) : OkOp ⟨k, A, B, []⟩ := by
  refine ⟨?_, fun h => by have := h.1; simp only at this; omega, Rng.nil, by simp⟩
  unfold mayP
  simp only
  rw [if_neg (by omega)]
  rcases hk with rfl | rfl | rfl | rfl | rfl
  · simp [shOk, shA, shB, fits4 hA]; exact fits_iff.2 (by have := h2 rfl; omega)
  · simp [shOk, shA, shB, fits4 hA, fits4 hB]
  · simp [shOk, shA, shB, fits4 hA, fits4 hB]
  · simp [shOk, shA, shB, fits4 hA]; exact fits_iff.2 (by have := h5 rfl; simp; omega)
  · simp [shOk, shA, shB, fits4 hA, fits4 hB]
theorem ok_none {k : Int} (hk : k = 7 ∨ k = 8) : OkOp ⟨k, 0, 0, []⟩ := by
  refine ⟨?_, fun h => by have := h.1; simp only at this; omega, Rng.nil, by simp⟩
  rcases hk with rfl | rfl <;> decide
theorem ok_load {bs : List Int} (h : Rng bs) (hl : bs.length ≤ 1100000) : OkOp ⟨1, 0, 0, bs⟩ := by
  refine ⟨?_, fun h => by have := h.1; simp only at this; omega, h, hl⟩
  unfold mayP
  simp [shOk, shA, shB, shL, fitsP]
  omega
theorem ok_odd {x : AskQ} {n : Int} (hn : 1 ≤ n ∧ n ≤ 2000000) : OkOp (oddP x n) := by
  have h1 := wiI_range (n := x.b) (lo := 1) (hi := 6) (by decide)
  have h2 := wiI_range (n := x.a) (lo := 0) (hi := n - 1) (by omega)
  have h3 := wiI_range (n := x.a) (lo := 0) (hi := 1) (by decide)
  have h4 := wiI_range (n := x.a) (lo := 0) (hi := 5) (by decide)
  have h5 := wiI_range (n := x.a) (lo := 0) (hi := 9) (by decide)
  unfold oddP
  simp only
  split
  · exact ok_load (Rng.mk (by decide) (Rng.mk (by decide) (Rng.mk (by decide) (Rng.mk (by decide) (Rng.mk (by decide) (Rng.mk (by omega) (Rng.mk (by omega) Rng.nil))))))) (by simp)
  · split
    · exact ok_plain (.inl rfl) (by omega) (by omega) (by omega) (by omega)
    · split
      · exact ok_plain (by omega) (by omega) (by omega) (by omega) (by omega)
      · exact ok_plain (by omega) (by omega) (by omega) (by omega) (by omega)
theorem may_size {m : MapP} (h : MayM m) : 1 ≤ m.cs.length ∧ m.cs.length ≤ 1048576 := by
  have h1 := h.len
  have a : 1 * 1 ≤ m.w * m.h := Int.mul_le_mul h.w.1 h.h.1 (by decide) (by have := h.w; omega)
  have b : m.w * m.h ≤ 1024 * 1024 := Int.mul_le_mul h.w.2 h.h.2 (by have := h.h; omega) (by decide)
  omega
theorem ask_ok {w h : Int} {c : List Int} (hc : Rng c) {m : MapP} (hm : MayM m) (x : AskQ) : OkOp (askP w h c m x).1 ∧ MayM (askP w h c m x).2 := by
  have hn := may_size hm
  have hA := wiI_range (n := x.a) (lo := 0) (hi := (m.cs.length : Int) - 1) (by omega)
  have hB := wiI_range (n := x.b) (lo := 0) (hi := (m.cs.length : Int) - 1) (by omega)
  have h9 := wiI_range (n := x.a) (lo := 0) (hi := 9) (by decide)
  have h20 := wiI_range (n := x.b) (lo := 0) (hi := 200) (by decide)
  have hk := wiI_range (n := x.k) (lo := 0) (hi := 15) (by decide)
  have hcost := costI_range (x := x.b % 256) (by omega)
  have hl : ∀ w h, OkOp (loadP (madeP w h c)) := fun w h => by
    have := putMapP_ok (made_may (w := w) (h := h) hc)
    exact ok_load this.1 this.2
  unfold askP
  simp only
  split
  · exact ⟨ok_plain (by omega) (by omega) (by omega) (by omega) (by omega), hm⟩
  · split
    · exact ⟨ok_plain (by omega) (by omega) (by omega) (by omega) (by omega), hm⟩
    · split
      · exact ⟨ok_plain (by omega) (by omega) (by omega) (by omega) (by omega), hm⟩
      · split
        · exact ⟨ok_plain (by omega) (by omega) (by omega) (by omega) (by omega), hm⟩
        · split
          · exact ⟨ok_plain (by omega) (by omega) (by omega) (by omega) (by omega), hm⟩
          · split
            · exact ⟨ok_none (by omega), hm⟩
            · split
              · split
                · exact ⟨hl _ _, made_may hc⟩
                · refine ⟨⟨?_, fun h => ?_, Rng.nil, by simp⟩, hm⟩
                  · unfold mayP
                    simp only
                    rw [if_pos trivial, if_neg (by omega), fits_iff.2 (by omega), show shOk (9 + wiI x.b 0 200) = false from decide_eq_false (by omega)]
                    simp
                  · have := h.2
                    simp only at this
                    omega
              · split
                · exact ⟨ok_odd (by omega), hm⟩
                · exact ⟨ok_none (by omega), hm⟩
theorem asks_ok {w h : Int} {c : List Int} (hc : Rng c) : ∀ (xs : List AskQ) {m : MapP}, MayM m → ∀ o ∈ asksP w h c m xs, OkOp o
  | [], _, _, o, ho => by cases ho
  | x :: xs, m, hm, o, ho => by
    obtain ⟨h1, h2⟩ := ask_ok (w := w) (h := h) hc hm x
    rcases List.mem_cons.1 ho with rfl | ho
    · exact h1
    · exact asks_ok hc xs h2 o ho
theorem script_ok {w h : Int} {c : List Int} (hc : Rng c) (xs : List AskQ) : ∀ o ∈ scriptP w h c xs, OkOp o := fun o ho => by
  have hm := made_may (w := w) (h := h) hc
  rcases List.mem_cons.1 ho with rfl | ho
  · have := putMapP_ok hm
    exact ok_load this.1 this.2
  · exact asks_ok hc _ hm o ho
theorem script_len (w h : Int) (c : List Int) (xs : List AskQ) : (scriptP w h c xs).length ≤ 61 := by
  unfold scriptP
  have : ∀ (xs : List AskQ) (m : MapP), (asksP w h c m xs).length = xs.length := by
    intro xs
    induction xs with
    | nil => intro m; rfl
    | cons x xs ih => intro m; simp [asksP, ih]
  rw [List.length_cons, this, List.length_take]
  omega
theorem asks_len (w h : Int) (c : List Int) : ∀ (xs : List AskQ) (m : MapP), (asksP w h c m xs).length = xs.length
  | [], _ => rfl
  | x :: xs, m => by simp [asksP, asks_len w h c xs]
end Go.Proofs.Ytjndgflalbcngaa.S
